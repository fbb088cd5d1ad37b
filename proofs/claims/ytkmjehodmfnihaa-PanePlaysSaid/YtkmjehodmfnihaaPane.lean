/-
  The walks of layer 7 (pane): one key's windows.
-/
import Derived.Test.YtkmjehodmfnihaaPanes
import Derived.Test.YtkmjehodmfnihaaIns
set_option linter.unusedSimpArgs false
set_option linter.unusedVariables false
namespace Go.Proofs.Ytkmjehodmfnihaa
open Go.RowKit

/-- does pane L have that window? -/
def hitB (xs : List Pane) (L : Nat) (s : Span) : Bool := decide ((xs[L]?).map Pane.sp = some s)
def Span.cmp (x y : Span) : Int := cmpS x.s x.e y.s y.e

set_option maxRecDepth 100000 in
set_option maxHeartbeats 400000 in
theorem paneAt1 (p : Pane) (s : Span) (w : World) : Calls Try.prog 49 #[p.val, s.val] w fun e w' => e = .returned (.int .i64 (p.sp.cmp s)) ∧ Below w.heap.size w w' := by
  simp only [Pane.val, Span.val]
  go_enter Try.func49, Try.ntmps49
  go_wp2_with fail
  refine (spanCompare _ _ _ _ _).mono ?_
  rintro e w1 ⟨rfl, hb1⟩
  go_wp2
  go_ret
  refine ⟨rfl, ?_⟩
  refine below_then ?_ ?_ hb1
  (iterate 24 (try (first | (with_reducible exact Below.size (by assumption)) | ((with_reducible show (_ : Nat) ≤ _); (try simp only [drewN_heap]); first | (with_reducible exact Below.size (by assumption)) | omega | (simp <;> omega)) | (with_reducible exact Below.refl _ _) | (with_reducible exact Below.size (Below.drew (by assumption))) | (with_reducible assumption) | (with_reducible refine Below.alloc ?_ ?_ _) | (with_reducible refine Below.drew ?_) | (with_reducible refine lib_below_drewN ?_ _) | (with_reducible refine Below.setCell ?_ ?_ _) | (with_reducible refine below_then ?_ ?_ (by assumption)))))

set_option maxRecDepth 100000 in
set_option maxHeartbeats 400000 in
theorem binSearch (v : Value) (xs : List Pane) (s : Span) (L : Nat) (w : World) (hR : Rd encP w v xs) (hlen : xs.length ≤ 1000000) (hL : L ≤ xs.length) (hp : ∀ k (h : k < xs.length), decide (xs[k].sp.cmp s < 0) = decide (k < L)) :
    Calls Try.prog 48 #[v, s.val, .func (.func 49) #[] #[]] w
      fun e w' => e = .returned (.tuple #[.int .i64 L, .bool (hitB xs L s)]) ∧ Below w.heap.size w w' := by
  obtain ⟨A, c, rfl, _⟩ := hR.slice
  simp only [Span.val]
  go_enter Try.func48, Try.ntmps48
  go_wp2
  go_loopw [9, 10] (fun i j wr => ∃ a b : Nat, a ≤ L ∧ L ≤ b ∧ b ≤ xs.length ∧ i = .int .i64 a ∧ j = .int .i64 b ∧ Below w.heap.size w wr ∧ Blk wr w.heap.size #[.int .i64 s.s, .int .i64 s.e] 28) (fun i j _ => (intOf j - intOf i).toNat)
  case atStart => exact ⟨0, xs.length, Nat.zero_le _, hL, Nat.le_refl _, rfl, rfl, (Below.refl _ _).alloc (Nat.le_refl _) _, Blk.new _ _ _⟩
  case round =>
    obtain ⟨a, b, ha, hb, hbn, rfl, rfl, hB, hT⟩ := hrel
    by_cases hlt : a < b
    · obtain ⟨m, hm⟩ : ∃ m : Nat, m = (a + b) / 2 := ⟨_, rfl⟩
      have hm1 : 2 * m ≤ a + b := by omega
      have hm2 : a + b < 2 * m + 2 := by omega
      have hk : m < xs.length := by omega
      have e1 : Hid (((a : Int) + b) / 2 = (m : Int)) := hid_mk (by omega)
      clear hm
      obtain ⟨kb, off, rfl, hkb, c0, c1, c2, c3, c4, c5, c6⟩ := (hR.below hB).pane hk
      obtain ⟨t0, tf⟩ := blk_facts hT
      have hc := hp m hk
      clear hp
      go_wp2
      rw [e1.out]
      refine wp_region_head 6 (by kernel_rfl) (by kernel_rfl) (fun W => ∃ n, W = World.drewN (wr) n) ⟨1, rfl⟩ ?_ (by decide)
      simp only [List.take_succ_cons, List.take_zero, List.drop_succ_cons, List.drop_zero]
      repeat (go_big_quiet_step ((fail)))
      refine wpQuiet_nil ?_
      rintro W ⟨nq, rfl⟩
      go_wp2_with fail
      refine (paneAt1 xs[m] s _).mono ?_
      rintro e w1 ⟨rfl, hb1⟩
      have hB1 : Below w.heap.size w w1 := by
        refine below_then ?_ ?_ hb1
        (iterate 24 (try (first | (with_reducible exact Below.size (by assumption)) | ((with_reducible show (_ : Nat) ≤ _); (try simp only [drewN_heap]); first | (with_reducible exact Below.size (by assumption)) | omega | (simp <;> omega)) | (with_reducible exact Below.refl _ _) | (with_reducible exact Below.size (Below.drew (by assumption))) | (with_reducible assumption) | (with_reducible refine Below.alloc ?_ ?_ _) | (with_reducible refine Below.drew ?_) | (with_reducible refine lib_below_drewN ?_ _) | (with_reducible refine Below.setCell ?_ ?_ _) | (with_reducible refine below_then ?_ ?_ (by assumption)))))
      have hT1 := (hT.drewN nq).below hb1
      clear hb1 t0 tf c0 c1 c2 c3 c4 c5 c6 hR hB hT
      by_cases hmL : m < L
      · have hc1 : decide (xs[m].sp.cmp s < 0) = true := by rw [hc]; simpa using hmL
        clear hc
        go_wp2
        refine NoPanic.normal ?_
        go_wp2
        exact ⟨⟨m + 1, b, by omega, hb, hbn, by go_num, rfl, hB1, hT1⟩, by simp [intOf]; omega⟩
      · have hc1 : decide (xs[m].sp.cmp s < 0) = false := by rw [hc]; simpa using hmL
        clear hc
        go_wp2
        refine NoPanic.normal ?_
        go_wp2
        exact ⟨⟨a, m, ha, by omega, by omega, rfl, rfl, hB1, hT1⟩, by simp [intOf]; omega⟩
    · obtain rfl : a = L := by omega
      clear hp
      have h0 : ∀ z, z = hitB xs a s → Ending.returned (.tuple #[.int .i64 a, .bool z]) = .returned (.tuple #[.int .i64 a, .bool (hitB xs a s)]) := fun b h => by rw [h]
      by_cases han : a < xs.length
      · obtain ⟨kb, off, rfl, hkb, c0, c1, c2, c3, c4, c5, c6⟩ := (hR.below hB).pane han
        obtain ⟨t0, tf⟩ := blk_facts hT
        have hr : ((xs[a].sp.cmp s) == 0) = hitB xs a s := by
          unfold hitB
          rw [List.getElem?_eq_getElem han]
          obtain ⟨u, v⟩ := s
          rcases hx : xs[a].sp with ⟨u', v'⟩
          simp only [Span.cmp, cmpS, orI, cmpI, Option.map_some, Option.some.injEq, hx, Span.mk.injEq]
          rw [Bool.eq_iff_iff]
          simp only [beq_iff_eq, decide_eq_true_eq]
          by_cases h1 : u' < u <;> by_cases h2 : u < u' <;> by_cases h3 : v' < v <;> by_cases h4 : v < v' <;> simp [h1, h2, h3, h4] <;> omega
        have H := hid_mk hr
        clear hr
        go_wp2
        refine wp_region_mid 11 rfl (by kernel_rfl) (by kernel_rfl) (by kernel_rfl) (fun W => ∃ n, W = World.drewN (wr) n) ⟨1, rfl⟩ ?_
        simp only [List.take_succ_cons, List.take_zero, List.drop_succ_cons, List.drop_zero]
        repeat (go_big_quiet_step ((fail)))
        refine wpQuiet_nil ?_
        rintro W ⟨nq, rfl⟩
        go_wp2_with fail
        refine (paneAt1 xs[a] s _).mono ?_
        rintro e w1 ⟨rfl, hb1⟩
        have hB1 : Below w.heap.size w w1 := by
          refine below_then ?_ ?_ hb1
          (iterate 24 (try (first | (with_reducible exact Below.size (by assumption)) | ((with_reducible show (_ : Nat) ≤ _); (try simp only [drewN_heap]); first | (with_reducible exact Below.size (by assumption)) | omega | (simp <;> omega)) | (with_reducible exact Below.refl _ _) | (with_reducible exact Below.size (Below.drew (by assumption))) | (with_reducible assumption) | (with_reducible refine Below.alloc ?_ ?_ _) | (with_reducible refine Below.drew ?_) | (with_reducible refine lib_below_drewN ?_ _) | (with_reducible refine Below.setCell ?_ ?_ _) | (with_reducible refine below_then ?_ ?_ (by assumption)))))
        clear hb1
        go_wp2_with fail
        show wpQuiet _ _ _ _ _ _
        repeat (go_big_quiet_step ((fail)))
        refine wpQuiet_nil ?_
        refine NoPanic.normal ?_
        go_wp2
        go_ret2
        exact ⟨h0 _ H, hB1⟩
      · have hr : false = hitB xs a s := by
          unfold hitB
          rw [List.getElem?_eq_none (by omega)]; simp
        have H := hid_mk hr
        have hd : decide ((a : Int) < (xs.length : Int)) = false := by simp; omega
        clear hr
        go_wp2
        refine wp_region_mid 11 rfl (by kernel_rfl) (by kernel_rfl) (by kernel_rfl) (fun W => ∃ n, W = World.drewN (wr) n) ⟨1, rfl⟩ ?_
        simp only [List.take_succ_cons, List.take_zero, List.drop_succ_cons, List.drop_zero]
        repeat (go_big_quiet_step ((fail)))
        refine wpQuiet_nil ?_
        rintro W ⟨nq, rfl⟩
        go_wp2_with fail
        show wpQuiet _ _ _ _ _ _
        repeat (go_big_quiet_step ((fail)))
        refine wpQuiet_nil ?_
        refine NoPanic.normal ?_
        go_wp2
        go_ret2
        refine ⟨h0 _ H, ?_⟩
        (iterate 24 (try (first | (with_reducible exact Below.size (by assumption)) | ((with_reducible show (_ : Nat) ≤ _); (try simp only [drewN_heap]); first | (with_reducible exact Below.size (by assumption)) | omega | (simp <;> omega)) | (with_reducible exact Below.refl _ _) | (with_reducible exact Below.size (Below.drew (by assumption))) | (with_reducible assumption) | (with_reducible refine Below.alloc ?_ ?_ _) | (with_reducible refine Below.drew ?_) | (with_reducible refine lib_below_drewN ?_ _) | (with_reducible refine Below.setCell ?_ ?_ _) | (with_reducible refine below_then ?_ ?_ (by assumption)))))

set_option maxRecDepth 100000 in
set_option maxHeartbeats 400000 in
theorem paneAt (v : Value) (xs : List Pane) (s : Span) (L : Nat) (w : World) (hR : Rd encP w v xs) (hlen : xs.length ≤ 1000000) (hL : L ≤ xs.length) (hp : ∀ k (h : k < xs.length), decide (xs[k].sp.cmp s < 0) = decide (k < L)) :
    Calls Try.prog 32 #[v, s.val] w
      fun e w' => e = .returned (.tuple #[.int .i64 L, .bool (hitB xs L s)]) ∧ Below w.heap.size w w' := by
  simp only [Span.val]
  have hp' := hid_mk hp
  clear hp
  go_enter Try.func32, Try.ntmps32
  go_wp2_with fail
  refine (binSearch v xs s L _ (hR.alloc _) hlen hL hp'.out).mono ?_
  rintro e w1 ⟨rfl, hb1⟩
  go_wp2
  go_ret2
  refine ⟨rfl, ?_⟩
  refine below_then ?_ ?_ hb1
  (iterate 24 (try (first | (with_reducible exact Below.size (by assumption)) | ((with_reducible show (_ : Nat) ≤ _); (try simp only [drewN_heap]); first | (with_reducible exact Below.size (by assumption)) | omega | (simp <;> omega)) | (with_reducible exact Below.refl _ _) | (with_reducible exact Below.size (Below.drew (by assumption))) | (with_reducible assumption) | (with_reducible refine Below.alloc ?_ ?_ _) | (with_reducible refine Below.drew ?_) | (with_reducible refine lib_below_drewN ?_ _) | (with_reducible refine Below.setCell ?_ ?_ _) | (with_reducible refine below_then ?_ ?_ (by assumption)))))

set_option maxRecDepth 100000 in
set_option maxHeartbeats 400000 in
theorem paneFind_no (v : Value) (xs : List Pane) (s : Span) (L : Nat) (w : World) (hR : Rd encP w v xs) (hlen : xs.length ≤ 1000000) (hL : L ≤ xs.length) (hp : ∀ k (h : k < xs.length), decide (xs[k].sp.cmp s < 0) = decide (k < L)) (hno : hitB xs L s = false) :
    Calls Try.prog 23 #[v, s.val] w
      fun e w' => e = .returned (.tuple #[Pane.val ⟨⟨#[]⟩, ⟨0, 0⟩, ⟨0, 0, 0, 0⟩⟩, .bool false]) ∧ Below w.heap.size w w' := by
  simp only [Span.val]
  have hp' := hid_mk hp
  clear hp
  go_enter Try.func23, Try.ntmps23
  go_wp2_with fail
  refine (paneAt v xs s L _ ((hR.alloc _).alloc _) hlen hL hp'.out).mono ?_
  rintro e w1 ⟨rfl, hb1⟩
  rw [hno]
  have R1 : Blk w1 (w.heap.size + 1) _ _ := (Blk.new2 _ _ _ _).below hb1
  obtain ⟨hc, hf⟩ := blk_facts R1
  have Z1 : Below w.heap.size w w1 := by
    refine below_then ?_ ?_ hb1
    (iterate 24 (try (first | (with_reducible exact Below.size (by assumption)) | ((with_reducible show (_ : Nat) ≤ _); (try simp only [drewN_heap]); first | (with_reducible exact Below.size (by assumption)) | omega | (simp <;> omega)) | (with_reducible exact Below.refl _ _) | (with_reducible exact Below.size (Below.drew (by assumption))) | (with_reducible assumption) | (with_reducible refine Below.alloc ?_ ?_ _) | (with_reducible refine Below.drew ?_) | (with_reducible refine lib_below_drewN ?_ _) | (with_reducible refine Below.setCell ?_ ?_ _) | (with_reducible refine below_then ?_ ?_ (by assumption)))))
  clear hb1
  go_wp2
  all_goals refine bodyPost_ret (v := .tuple #[Pane.val ⟨⟨#[]⟩, ⟨0, 0⟩, ⟨0, 0, 0, 0⟩⟩, .bool false]) ?_ rfl ⟨rfl, ?_⟩
  all_goals first | ((with_reducible show Below _ _ _); (iterate 24 (try (first | (with_reducible exact Below.size (by assumption)) | ((with_reducible show (_ : Nat) ≤ _); (try simp only [drewN_heap]); first | (with_reducible exact Below.size (by assumption)) | omega | (simp <;> omega)) | (with_reducible exact Below.refl _ _) | (with_reducible exact Below.size (Below.drew (by assumption))) | (with_reducible assumption) | (with_reducible refine Below.alloc ?_ ?_ _) | (with_reducible refine Below.drew ?_) | (with_reducible refine lib_below_drewN ?_ _) | (with_reducible refine Below.setCell ?_ ?_ _) | (with_reducible refine below_then ?_ ?_ (by assumption)))))) | simp [results, Try.results23, go_sem, Pane.val, *]

set_option maxRecDepth 100000 in
set_option maxHeartbeats 400000 in
theorem paneFind_yes (v : Value) (xs : List Pane) (s : Span) (L : Nat) (w : World) (hR : Rd encP w v xs) (hlen : xs.length ≤ 1000000) (hL : L < xs.length) (hp : ∀ k (h : k < xs.length), decide (xs[k].sp.cmp s < 0) = decide (k < L)) (hno : hitB xs L s = true) :
    Calls Try.prog 23 #[v, s.val] w
      fun e w' => e = .returned (.tuple #[xs[L].val, .bool true]) ∧ Below w.heap.size w w' := by
  simp only [Span.val]
  have hp' := hid_mk hp
  clear hp
  obtain ⟨A, c, rfl, _⟩ := hR.slice
  go_enter Try.func23, Try.ntmps23
  go_wp2_with fail
  refine (paneAt _ xs s L _ ((hR.alloc _).alloc _) hlen (by omega) hp'.out).mono ?_
  rintro e w1 ⟨rfl, hb1⟩
  rw [hno]
  have R1 : Blk w1 (w.heap.size + 1) _ _ := (Blk.new2 _ _ _ _).below hb1
  obtain ⟨hc, hf⟩ := blk_facts R1
  obtain ⟨kb, off, rfl, hkb, c0, c1, c2, c3, c4, c5, c6⟩ := (((hR.alloc _).alloc _).below hb1).pane hL
  have Z1 : Below w.heap.size w w1 := by
    refine below_then ?_ ?_ hb1
    (iterate 24 (try (first | (with_reducible exact Below.size (by assumption)) | ((with_reducible show (_ : Nat) ≤ _); (try simp only [drewN_heap]); first | (with_reducible exact Below.size (by assumption)) | omega | (simp <;> omega)) | (with_reducible exact Below.refl _ _) | (with_reducible exact Below.size (Below.drew (by assumption))) | (with_reducible assumption) | (with_reducible refine Below.alloc ?_ ?_ _) | (with_reducible refine Below.drew ?_) | (with_reducible refine lib_below_drewN ?_ _) | (with_reducible refine Below.setCell ?_ ?_ _) | (with_reducible refine below_then ?_ ?_ (by assumption)))))
  clear hb1
  go_wp2
  all_goals refine bodyPost_ret (v := .tuple #[xs[L].val, .bool true]) ?_ rfl ⟨rfl, ?_⟩
  all_goals first | ((with_reducible show Below _ _ _); (iterate 24 (try (first | (with_reducible exact Below.size (by assumption)) | ((with_reducible show (_ : Nat) ≤ _); (try simp only [drewN_heap]); first | (with_reducible exact Below.size (by assumption)) | omega | (simp <;> omega)) | (with_reducible exact Below.refl _ _) | (with_reducible exact Below.size (Below.drew (by assumption))) | (with_reducible assumption) | (with_reducible refine Below.alloc ?_ ?_ _) | (with_reducible refine Below.drew ?_) | (with_reducible refine lib_below_drewN ?_ _) | (with_reducible refine Below.setCell ?_ ?_ _) | (with_reducible refine below_then ?_ ?_ (by assumption)))))) | simp [results, Try.results23, go_sem, Pane.val, *]
end Go.Proofs.Ytkmjehodmfnihaa
