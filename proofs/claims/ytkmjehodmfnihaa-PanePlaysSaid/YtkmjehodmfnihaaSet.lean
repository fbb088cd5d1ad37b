/-
  easellaw07.set: a list that has a pane, by rising windows. Slices of slices that are read.
-/
import Derived.Test.YtkmjehodmfnihaaRefP
set_option linter.unusedSimpArgs false
set_option linter.unusedVariables false
namespace Go.Proofs.Ytkmjehodmfnihaa
open Go.RowKit

section
variable {α : Type} {E : Enc α} {w : World} {xs : List α}
/-- s[:k] -/
theorem Rd.upto {A : Option Addr} {n c : Nat} (h : Rd E w (.slice A n c) xs) {k : Nat} (hk : k ≤ xs.length) : Rd E w (.slice A k c) (xs.take k) := by
  obtain ⟨A', c', hv, h1, h2, h3⟩ := h.out
  injection hv with h4 h5 h6
  subst h4 h6
  have hl : (xs.take k).length = k := by simp; omega
  refine ⟨⟨A, c, by rw [hl], by omega, by omega, fun hn => ?_⟩⟩
  rw [hl] at hn
  obtain ⟨b, off, rfl, hb, hc⟩ := h3 (by omega)
  refine ⟨b, off, rfl, hb, fun j u hu => hc j u ?_⟩
  rw [E.flat_take, List.getElem?_take] at hu
  split at hu
  · exact hu
  · cases hu
/-- s[k:] -/
theorem Rd.since {A : Option Addr} {n c : Nat} (h : Rd E w (.slice A n c) xs) {k : Nat} (hk : k ≤ xs.length) : Rd E w (.slice (if c = k then A else Option.map (fun x => x.add (k * E.k)) A) (n - k) (c - k)) (xs.drop k) := by
  obtain ⟨A', c', hv, h1, h2, h3⟩ := h.out
  injection hv with h4 h5 h6
  subst h4 h5 h6
  have hl : (xs.drop k).length = xs.length - k := by simp
  refine ⟨⟨_, c - k, by rw [hl], by omega, by omega, fun hn => ?_⟩⟩
  rw [hl] at hn
  obtain ⟨b, off, rfl, hb, hc⟩ := h3 (by omega)
  rw [if_neg (by omega)]
  refine ⟨b, off + k * E.k, by simp [Addr.add], hb, fun j u hu => ?_⟩
  rw [Nat.add_assoc]
  refine hc _ u ?_
  rw [E.flat_drop, List.getElem?_drop] at hu
  exact hu
theorem Blk.old {w' : World} {b base : Nat} {cs : Array Value} {t : TypeId} (h : Blk w b cs t) (hk : ∀ b, b < base → w'.heap[b]? = w.heap[b]?) (hb : b < base) : Blk w' b cs t := (hk b hb).trans h
/-- append(s, x...) onto a row of the call's own, beside what lay before -/
theorem wpList_appendB {P : Program} {ops : Array Oper} {rest : List Oper} {o : Oper} {a : Act} {Q : Exit → Act → World → Prop} {T t : TypeId} {v : Value} {ys : List α} (I : Info P E T) (ht : P.underlying t = some (.slice T)) (hgd : o.guard = none) (s x : Operand)
    (ho : o.op = .call { callee := .builtin .append, args := #[s, x], argTypes := #[t, t] }) (base : Nat) (xv : Value) (hown : Own E T w base v xs) (hs : a.eval s = v) (hr : Rd E w xv ys) (hx : a.eval x = xv)
    (hlen : xs.length + ys.length ≤ 1000000) (hbase : base ≤ w.heap.size) {w0 : World} (Z : Below w0.heap.size w0 w) (h0 : w0.heap.size ≤ base)
    (h : ∀ v' w', Own E T w' base v' (xs ++ ys) → Below w0.heap.size w0 w' → base ≤ w'.heap.size → (∀ b, b < base → w'.heap[b]? = w.heap[b]?) → wpList P ops Q rest (a.put o.dst v') w') : wpList P ops Q (o :: rest) a w :=
  wpList_append I ht hgd s x ho base xv hown hs hr hx hlen hbase fun v' w' h1 h2 h3 => h v' w' h1 (Z.grown h2 (by omega) (fun b hb => Nat.le_trans h0 (hown.base b hb))) (Nat.le_trans hbase h2.size) (fun b hb => h2.block b (by omega) (fun he => by
    have := hown.base b he.symm
    omega))
end

/-- behind the last one that is below s -/
def lastBelow (xs : List Pane) (s : Span) : Nat → Nat
  | 0 => 0
  | k + 1 => if decide ((xs[k]?.getD zeroP).sp.cmp s < 0) then k + 1 else lastBelow xs s k
theorem lastBelow_le (xs : List Pane) (s : Span) (k : Nat) : lastBelow xs s k ≤ k := by
  induction k with
  | zero => exact Nat.le_refl _
  | succ k ih => unfold lastBelow; split <;> omega
def setP (xs : List Pane) (p : Pane) : List Pane := xs.take (lastBelow xs p.sp xs.length) ++ [p] ++ xs.drop (lastBelow xs p.sp xs.length)

set_option maxRecDepth 100000 in
set_option maxHeartbeats 400000 in
theorem law07set (v : Value) (xs : List Pane) (p : Pane) (w : World) (hR : Rd encP w v xs) (hlen : xs.length < 900000) :
    Calls Try.prog 25 #[v, p.val] w fun e w' => ∃ v', e = .returned v' ∧ Own encP 32 w' w.heap.size v' (setP xs p) ∧ Below w.heap.size w w' := by
  obtain ⟨I⟩ := infoP
  obtain ⟨A, c, rfl, hc, hml, hne⟩ := hR.out
  have hR' := hid_mk hR
  clear hR hc hml
  have hne' := hid_mk hne
  clear hne
  simp only [Pane.val]
  go_enter Try.func25, Try.ntmps25
  go_wp2
  go_loopw [5, 6] (fun o i wr => ∃ k : Nat, k ≤ xs.length ∧ i = .int .i64 k ∧ o = .int .i64 (lastBelow xs p.sp k) ∧ Hid (Below w.heap.size w wr) ∧ Hid (Blk wr w.heap.size p.cells.toArray 32)) (fun _ i _ => xs.length - (intOf i).toNat)
  case atStart => exact ⟨0, Nat.zero_le _, rfl, rfl, hid_mk ((Below.refl _ _).alloc (Nat.le_refl _) _), hid_mk (Blk.new _ _ _)⟩
  case round =>
    obtain ⟨k, hk, rfl, rfl, hB, hT⟩ := hrel
    have hRr := hid_mk (hR'.out.below hB.out)
    have hz := hB.out.size
    have hll := lastBelow_le xs p.sp k
    obtain ⟨tc0, tf⟩ := blk_facts hT.out
    have tc : ∀ i, wr.cell? ⟨w.heap.size, i, none⟩ = (#[.string p.key, .int .i64 p.sp.s, .int .i64 p.sp.e, .int .i64 p.ag.n, .int .i64 p.ag.sum, .int .i64 p.ag.lo, .int .i64 p.ag.hi] : Array Value)[i]? := tc0
    clear tc0
    by_cases hlt : k < xs.length
    · obtain ⟨b, off, rfl, hbk, c0, c1, c2, c3, c4, c5, c6⟩ := hRr.out.pane (j := k) hlt
      have hg : Hid (xs[k]?.getD zeroP = xs[k]) := hid_mk (by rw [List.getElem?_eq_getElem hlt]; rfl)
      go_wp2
      refine wp_region_head 7 (by kernel_rfl) (by kernel_rfl) (fun W => ∃ n, W = World.drewN (wr) n) ⟨1, rfl⟩ ?_ (by decide)
      simp only [List.take_succ_cons, List.take_zero, List.drop_succ_cons, List.drop_zero]
      repeat (go_big_quiet_step ((fail)))
      refine wpQuiet_nil ?_
      rintro W ⟨nq, rfl⟩
      go_wp2_with fail
      refine (refCompare _ _ _ _ _).mono ?_
      rintro e w1 ⟨rfl, hb1⟩
      have hT1 := hid_mk ((hT.out.drewN nq).below hb1)
      have hB0 := hB.out
      have Z1 : Below w.heap.size w w1 := by
        refine below_then ?_ ?_ hb1
        (iterate 24 (try (first | (with_reducible exact Below.size (by assumption)) | ((with_reducible show (_ : Nat) ≤ _); (try simp only [drewN_heap]); first | (with_reducible exact Below.size (by assumption)) | omega | (simp <;> omega)) | (with_reducible exact Below.refl _ _) | (with_reducible exact Below.size (Below.drew (by assumption))) | (with_reducible assumption) | (with_reducible refine Below.alloc ?_ ?_ _) | (with_reducible refine Below.drew ?_) | (with_reducible refine lib_below_drewN ?_ _) | (with_reducible refine Below.setCell ?_ ?_ _) | (with_reducible refine below_then ?_ ?_ (by assumption)))))
      have hZ1 := hid_mk Z1
      clear hb1 tc tf c0 c1 c2 c3 c4 c5 c6 Z1
      by_cases hm : cmpS xs[k].sp.s xs[k].sp.e p.sp.s p.sp.e < 0
      · have hc1 : decide (cmpS xs[k].sp.s xs[k].sp.e p.sp.s p.sp.e < 0) = true := by simpa using hm
        have hs : Hid (lastBelow xs p.sp (k + 1) = k + 1) := hid_mk (by unfold lastBelow; rw [hg.out]; unfold Span.cmp; rw [if_pos hc1])
        clear hm
        go_wp2
        refine NoPanic.normal ?_
        go_wp2
        exact ⟨⟨k + 1, by omega, by go_num, by rw [hs.out]; go_num, hZ1, hT1⟩, by simp [intOf]; omega⟩
      · have hc1 : decide (cmpS xs[k].sp.s xs[k].sp.e p.sp.s p.sp.e < 0) = false := by simpa using hm
        have hs : Hid (lastBelow xs p.sp (k + 1) = lastBelow xs p.sp k) := hid_mk (by conv => lhs; unfold lastBelow
                                                                                      rw [hg.out]; unfold Span.cmp; rw [if_neg (by rw [hc1]; simp)])
        clear hm
        go_wp2
        refine NoPanic.normal ?_
        go_wp2
        exact ⟨⟨k + 1, by omega, by go_num, by rw [hs.out], hZ1, hT1⟩, by simp [intOf]; omega⟩
    · have he : k = xs.length := by omega
      subst he
      obtain ⟨L, hL⟩ : ∃ L, L = lastBelow xs p.sp xs.length := ⟨_, rfl⟩
      have hset : Hid (setP xs p = xs.take L ++ [p] ++ xs.drop L) := hid_mk (by rw [hL]; rfl)
      rw [← hL] at hll ⊢
      clear hL
      have hbl := hT.out.lt
      have hZ0 : Hid (Below w.heap.size w (wr.alloc (.cells #[] 32))) := hid_mk (hB.out.alloc hz _)
      have hO1 : Own encP 32 (wr.alloc (.cells #[] 32)) wr.heap.size (.slice (some ⟨wr.heap.size, 0, none⟩) 0 0) [] := Own.empty _ _
      have hO1' := hid_mk hO1
      clear hO1
      have hRu := hid_mk ((hRr.out.alloc (.cells #[] 32)).upto hll)
      have hlc : L ≤ c := by
        obtain ⟨_, _, hv, h1⟩ := hRr.out.slice
        injection hv; omega
      have hlL : (xs.take L).length = L := by simp; omega
      have hlL' := hid_mk hlL
      clear hlL
      have hRs := hid_mk (fun W (h : Below w.heap.size w W) => (hR'.out.below h).since hll)
      go_wp2_with (first
        | (at_builtin; refine wpList_appendB I undP rfl _ _ rfl wr.heap.size _ hO1'.out rfl hRu.out rfl (by rw [hlL'.out]; simp; omega) (by simp) hZ0.out hz ?_; (intro v1 w1 hown1 hZ1 hz1 hk1; have hT1 := hid_mk ((hT.out.alloc (.cells #[] 32)).old hk1 hbl); have tc1 : ∀ i, w1.cell? ⟨w.heap.size, i, none⟩ = (#[.string p.key, .int .i64 p.sp.s, .int .i64 p.sp.e, .int .i64 p.ag.n, .int .i64 p.ag.sum, .int .i64 p.ag.lo, .int .i64 p.ag.hi] : Array Value)[i]? := (blk_facts hT1.out).1; have hZ1' := hid_mk hZ1; have hown1' := hid_mk hown1; have hbl2 := Blk.new w1 p.cells.toArray 32; clear hown1 hk1 hZ1))
        | (at_builtin; refine wpList_appendB I undP rfl _ _ rfl wr.heap.size _ (hown1'.out.alloc _) rfl (Rd.lit hbl2) rfl (by rw [List.length_append, hlL'.out]; simp; omega) (by simp; omega) (Below.alloc hZ1'.out (by omega) _) hz ?_; (intro v2 w2 hown2 hZ2 hz2 hk2; have hZ2' := hid_mk hZ2; have hown2' := hid_mk hown2; clear hown2 hk2 hZ2))
        | (at_builtin; refine wpList_appendB I undP rfl _ _ rfl wr.heap.size _ hown2'.out rfl (hRs.out _ hZ2'.out) rfl (by rw [List.length_append, List.length_append, hlL'.out]; simp; omega) (by omega) hZ2'.out hz ?_; (intro v3 w3 hown3 hZ3 hz3 hk3; have hZ3' := hid_mk hZ3; have hown3' := hid_mk hown3; clear hown3 hk3 hZ3)))
      all_goals go_ret
      all_goals refine ⟨_, rfl, ?_, hZ3'.out⟩
      all_goals rw [hset.out]
      all_goals exact hown3'.out.lower hz
end Go.Proofs.Ytkmjehodmfnihaa
