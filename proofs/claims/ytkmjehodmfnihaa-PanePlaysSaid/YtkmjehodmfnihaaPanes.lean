/-
  Windows, panes, how they lie in memory; slices of panes: Clone, Equal.
-/
import Derived.Test.YtkmjehodmfnihaaSl
import Derived.Test.YtkmjehodmfnihaaSpan
import Derived.Laws.StructEq
set_option linter.unusedSimpArgs false
set_option linter.unusedVariables false
namespace Go.Proofs.Ytkmjehodmfnihaa
open Go.RowKit

structure Span where
  s : Int
  e : Int
  deriving DecidableEq
structure Pane where
  key : ByteArray
  sp : Span
  ag : Agg
  deriving DecidableEq
def Span.cells (x : Span) : List Value := [.int .i64 x.s, .int .i64 x.e]
def Span.val (x : Span) : Value := .agg #[.int .i64 x.s, .int .i64 x.e]
def Pane.cells (p : Pane) : List Value := [.string p.key, .int .i64 p.sp.s, .int .i64 p.sp.e, .int .i64 p.ag.n, .int .i64 p.ag.sum, .int .i64 p.ag.lo, .int .i64 p.ag.hi]
def Pane.val (p : Pane) : Value := .agg #[.string p.key, .int .i64 p.sp.s, .int .i64 p.sp.e, .int .i64 p.ag.n, .int .i64 p.ag.sum, .int .i64 p.ag.lo, .int .i64 p.ag.hi]
def encS : Enc Span := ⟨Span.cells, 2, by decide, fun _ => rfl, fun x u hu => by simp [Span.cells] at hu; rcases hu with rfl | rfl <;> rfl⟩
def encP : Enc Pane := ⟨Pane.cells, 7, by decide, fun _ => rfl, fun x u hu => by simp [Pane.cells] at hu; rcases hu with rfl | rfl | rfl | rfl | rfl | rfl | rfl <;> rfl⟩

theorem infoP0 : (Try.prog.info? 32).map (fun i => (i.zero.map (·.cells.size), i.size, i.bytes)) = some (some 7, 7, 64) := by kernel_rfl
theorem infoS0 : (Try.prog.info? 28).map (fun i => (i.zero.map (·.cells.size), i.size, i.bytes)) = some (some 2, 2, 16) := by kernel_rfl
theorem info_mk {α : Type} {P : Program} {E : Enc α} {T : TypeId} {b : Nat} (h : (P.info? T).map (fun i => (i.zero.map (·.cells.size), i.size, i.bytes)) = some (some E.k, E.k, b)) (hb : b ≤ 1000) : Nonempty (Info P E T) := by
  cases hi : P.info? T with
  | none => rw [hi] at h; cases h
  | some i =>
    rw [hi] at h
    simp only [Option.map_some, Option.some.injEq, Prod.mk.injEq] at h
    cases hz : i.zero with
    | none => rw [hz] at h; simp at h
    | some z =>
      rw [hz] at h
      simp at h
      exact ⟨⟨i, z, b, hi, hz, h.2.1, h.2.2, h.1, hb⟩⟩
theorem infoP : Nonempty (Info Try.prog encP 32) := info_mk (b := 64) infoP0 (by decide)
theorem infoS : Nonempty (Info Try.prog encS 28) := info_mk (b := 16) infoS0 (by decide)

theorem undP : Try.prog.underlying 26 = some (.slice 32) := by kernel_rfl
theorem undS : Try.prog.underlying 45 = some (.slice 28) := by kernel_rfl

set_option maxRecDepth 100000 in
set_option maxHeartbeats 400000 in
theorem cloneP (v : Value) (xs : List Pane) (w : World) (hR : Rd encP w v xs) (hlen : xs.length ≤ 1000000) :
    Calls Try.prog 28 #[v] w fun e w' => ∃ v', e = .returned v' ∧ Own encP 32 w' w.heap.size v' xs ∧ Below w.heap.size w w' := by
  obtain ⟨I⟩ := infoP
  obtain ⟨A, c, rfl, hc, hml, hne⟩ := hR.out
  have hq := fun (w : World) (a : Option Addr) (n c : Nat) => Lib.run_eql_slice_nil (P := Try.prog) w 26 32 a n c 0 0 undP
  rcases A with _ | ad
  · have hx : xs = [] := by
      cases xs with
      | nil => rfl
      | cons x xs => obtain ⟨b, off, hA, _⟩ := hne (by simp); cases hA
    subst hx
    go_enter Try.func28, Try.ntmps28
    go_wp2
    go_ret
    exact ⟨_, rfl, Own.nil _ _ _, Below.refl _ _⟩
  · have hR' := hid_mk hR
    clear hR hne hc hml
    go_enter Try.func28, Try.ntmps28
    go_wp2_with (at_builtin; refine wpList_append I undP rfl _ _ rfl w.heap.size _ (Own.empty _ _) rfl (hR'.out.alloc _) rfl (by simpa using hlen) (by simp) ?_; (intro v' w1 hown hg hat))
    go_ret
    refine ⟨v', rfl, by simpa using hown, ?_⟩
    refine Below.of_grown hg (by simp) (fun b hb => ?_) ((Below.refl _ _).alloc (Nat.le_refl _) _)
    have : w.heap.size = b := by simpa [Value.ownBlock] using hb
    omega

theorem bytes_eq (a b : ByteArray) : (a.toList == b.toList) = decide (a = b) := by
  rw [ByteArray.toList_eq, ByteArray.toList_eq]
  obtain ⟨⟨x⟩⟩ := a
  obtain ⟨⟨y⟩⟩ := b
  simp
  by_cases h : x = y
  · subst h; simp
  · simp [h]
theorem eqInS (x y : Span) (d : Nat) (w : World) : (Op.equalIn (d + 1 + 1) 28 x.val y.val).run Try.prog w = .ok (decide (x = y)) w := by
  have hS : Try.prog.underlying 28 = some (.struct (Try.prog.fieldsOf 28)) := by kernel_rfl
  have hp : Try.prog.stoodInHeld 28 = false := by kernel_rfl
  simp only [Span.val]
  rw [run_equalIn_agg w _ 28 _ _ hS hp]
  simp only [Program.fieldsOf, Try.underlying28]
  go_simp
  obtain ⟨a, b⟩ := x
  obtain ⟨a', b'⟩ := y
  by_cases h1 : a = a' <;> by_cases h2 : b = b' <;> simp [h1, h2]
theorem eqInA (x y : Agg) (d : Nat) (w : World) : (Op.equalIn (d + 1 + 1) 30 x.val y.val).run Try.prog w = .ok (decide (x = y)) w := by
  have hS : Try.prog.underlying 30 = some (.struct (Try.prog.fieldsOf 30)) := by kernel_rfl
  have hp : Try.prog.stoodInHeld 30 = false := by kernel_rfl
  simp only [Agg.val]
  rw [run_equalIn_agg w _ 30 _ _ hS hp]
  simp only [Program.fieldsOf, Try.underlying30]
  go_simp
  obtain ⟨a, b, c, e⟩ := x
  obtain ⟨a', b', c', e'⟩ := y
  by_cases h1 : a = a' <;> by_cases h2 : b = b' <;> by_cases h3 : c = c' <;> by_cases h4 : e = e' <;> simp [h1, h2, h3, h4]
theorem eqInP (x y : Pane) (d : Nat) (w : World) : (Op.equalIn (d + 1 + 1 + 1) 32 x.val y.val).run Try.prog w = .ok (decide (x = y)) w := by
  have hS : Try.prog.underlying 32 = some (.struct (Try.prog.fieldsOf 32)) := by kernel_rfl
  have hp : Try.prog.stoodInHeld 32 = false := by kernel_rfl
  have e1 := eqInS x.sp y.sp d w
  have e2 := eqInA x.ag y.ag d w
  have e3 := bytes_eq x.key y.key
  simp only [Span.val, Agg.val] at e1 e2
  simp only [Pane.val]
  rw [run_equalIn_agg w _ 32 _ _ hS hp]
  simp only [Program.fieldsOf, Try.underlying32]
  simp [go_sem, e1, e2, e3]
  obtain ⟨k, ⟨s, e⟩, ⟨a, b, c, f⟩⟩ := x
  obtain ⟨k', ⟨s', e'⟩, ⟨a', b', c', f'⟩⟩ := y
  (repeat' split) <;> simp_all
theorem eqgS : Try.prog.eqGuardType Try.prog.depth 28 = false := by kernel_rfl
theorem eqgP : Try.prog.eqGuardType Try.prog.depth 32 = false := by kernel_rfl
theorem eqlS (x y : Span) (w : World) : (binOp .eql 28 x.val y.val).run Try.prog w = .ok (.bool (decide (x = y))) w := by
  have := eqInS x y 9998 w
  simp only [Span.val] at this ⊢
  rw [run_eql_struct, this]; rfl
theorem eqlP (x y : Pane) (w : World) : (binOp .eql 32 x.val y.val).run Try.prog w = .ok (.bool (decide (x = y))) w := by
  have := eqInP x y 9997 w
  simp only [Pane.val] at this ⊢
  rw [run_eql_struct, this]; rfl
theorem neqP (x y : Pane) (w : World) : (binOp .neq 32 x.val y.val).run Try.prog w = .ok (.bool (!decide (x = y))) w := by
  have := eqInP x y 9997 w
  simp only [Pane.val] at this ⊢
  rw [run_neq_struct, this]; rfl

/-- the seven cells of pane j -/
theorem Rd.pane {w : World} {A : Option Addr} {n c : Nat} {xs : List Pane} (h : Rd encP w (.slice A n c) xs) {j : Nat} (hj : j < xs.length) : ∃ b off, A = some ⟨b, off, none⟩ ∧ b < w.heap.size ∧
    w.cell? ⟨b, off + j * 7, none⟩ = some (.string xs[j].key) ∧ w.cell? ⟨b, off + j * 7 + 1, none⟩ = some (.int .i64 xs[j].sp.s) ∧ w.cell? ⟨b, off + j * 7 + 2, none⟩ = some (.int .i64 xs[j].sp.e) ∧
    w.cell? ⟨b, off + j * 7 + 3, none⟩ = some (.int .i64 xs[j].ag.n) ∧ w.cell? ⟨b, off + j * 7 + 4, none⟩ = some (.int .i64 xs[j].ag.sum) ∧ w.cell? ⟨b, off + j * 7 + 5, none⟩ = some (.int .i64 xs[j].ag.lo) ∧ w.cell? ⟨b, off + j * 7 + 6, none⟩ = some (.int .i64 xs[j].ag.hi) := by
  obtain ⟨b, off, hA, hb, hc⟩ := h.elem hj
  exact ⟨b, off, hA, hb, hc 0 _ rfl, hc 1 _ rfl, hc 2 _ rfl, hc 3 _ rfl, hc 4 _ rfl, hc 5 _ rfl, hc 6 _ rfl⟩

set_option maxRecDepth 100000 in
set_option maxHeartbeats 400000 in
theorem equalP (v1 v2 : Value) (xs ys : List Pane) (w : World) (h1 : Rd encP w v1 xs) (h2 : Rd encP w v2 ys) (hlen : xs.length ≤ 1000000) (hlen2 : ys.length ≤ 1000000) :
    Calls Try.prog 29 #[v1, v2] w fun e w' => e = .returned (.bool (decide (xs = ys))) ∧ Below w.heap.size w w' := by
  obtain ⟨A, c, rfl, _⟩ := h1.slice
  obtain ⟨A', c', rfl, _⟩ := h2.slice
  have h0 : ∀ z, z = decide (xs = ys) → Ending.returned (.bool z) = .returned (.bool (decide (xs = ys))) := fun b h => by rw [h]
  by_cases hl : xs.length = ys.length
  · go_enter Try.func29, Try.ntmps29
    go_wp2
    go_loopw [13] (fun i wr => ∃ k : Nat, k ≤ ys.length ∧ i = .int .i64 k ∧ Hid (xs.take k = ys.take k) ∧ ∃ n, wr = w.drewN n) (fun i _ => ys.length - (intOf i).toNat)
    case atStart => exact ⟨0, Nat.zero_le _, rfl, hid_mk rfl, 0, rfl⟩
    case round =>
      obtain ⟨k, hk, rfl, ht, m, rfl⟩ := hrel
      by_cases hlt : k < ys.length
      · obtain ⟨b, off, rfl, hb, c0, c1, c2, c3, c4, c5, c6⟩ := h1.pane (j := k) (by omega)
        obtain ⟨b', off', rfl, hb', d0, d1, d2, d3, d4, d5, d6⟩ := h2.pane (j := k) hlt
        have hg := eqgP
        have hxk : k < xs.length := by omega
        by_cases he : xs[k] = ys[k]
        · have hq : ∀ w, (binOp .neq 32 xs[k].val ys[k].val).run Try.prog w = .ok (.bool false) w := fun w => by rw [neqP]; simp [he]
          have ht' : Hid (xs.take (k + 1) = ys.take (k + 1)) := hid_mk (by rw [List.take_succ_eq_append_getElem hxk, List.take_succ_eq_append_getElem hlt, ht.out, he])
          simp only [Pane.val] at hq
          clear he ht
          go_wp2
          go_quiet (fail)
          go_wp2
          exact ⟨⟨k + 1, by omega, by go_num, ht', m + nq, by first | rfl | rw [World.drewN_drewN]⟩, by simp [intOf]; omega⟩
        · have hq : ∀ w, (binOp .neq 32 xs[k].val ys[k].val).run Try.prog w = .ok (.bool true) w := fun w => by rw [neqP]; simp [he]
          have hr : false = decide (xs = ys) := by
            symm; simp only [decide_eq_false_iff_not]; rintro rfl; exact he rfl
          have H := hid_mk hr
          simp only [Pane.val] at hq
          clear he ht hr
          go_wp2
          go_quiet (fail)
          go_wp2
          go_ret
          refine ⟨h0 _ H, ?_⟩
          (iterate 24 (try (first | (with_reducible exact Below.size (by assumption)) | ((with_reducible show (_ : Nat) ≤ _); (try simp only [drewN_heap]); first | (with_reducible exact Below.size (by assumption)) | omega | (simp <;> omega)) | (with_reducible exact Below.refl _ _) | (with_reducible exact Below.size (Below.drew (by assumption))) | (with_reducible assumption) | (with_reducible refine Below.alloc ?_ ?_ _) | (with_reducible refine Below.drew ?_) | (with_reducible refine lib_below_drewN ?_ _) | (with_reducible refine Below.setCell ?_ ?_ _) | (with_reducible refine below_then ?_ ?_ (by assumption)))))
      · have hr : true = decide (xs = ys) := by
          symm; simp only [decide_eq_true_eq]
          have h3 := ht.out
          rw [List.take_of_length_le (by omega), List.take_of_length_le (by omega)] at h3
          exact h3
        have H := hid_mk hr
        clear hr hl ht
        go_wp2
        go_ret
        exact ⟨h0 _ H, lib_below_drewN (Below.refl _ _) _⟩
  · have hd : ((xs.length : Int) != (ys.length : Int)) = true := by simp; omega
    have hr : false = decide (xs = ys) := by
      symm; simp only [decide_eq_false_iff_not]; rintro rfl; exact hl rfl
    have H := hid_mk hr
    clear hl hr
    go_enter Try.func29, Try.ntmps29
    go_wp2
    go_ret
    exact ⟨h0 _ H, Below.refl _ _⟩
end Go.Proofs.Ytkmjehodmfnihaa
