/-
  The walks of layers 1, 2 and 4 (num, span, agg), and of cmp.
-/
import Derived.Test.YtkmjehodmfnihaaBase
set_option linter.unusedSimpArgs false
set_option linter.unusedVariables false
namespace Go.Proofs.Ytkmjehodmfnihaa
open Go.RowKit

set_option maxRecDepth 100000 in
set_option maxHeartbeats 400000 in
theorem isNaN64 (x : Int) (w : World) : Calls Try.prog 57 #[.int .i64 x] w fun e w' => e = .returned (.bool false) ∧ w' = w := by
  go_enter Try.func57, Try.ntmps57
  go_wp2
  go_ret
  exact ⟨by simp, rfl⟩

set_option maxRecDepth 100000 in
set_option maxHeartbeats 400000 in
theorem cmp64 (x y : Int) (w : World) : Calls Try.prog 46 #[.int .i64 x, .int .i64 y] w fun e w' => e = .returned (.int .i64 (cmpI x y)) ∧ w' = w := by
  unfold cmpI
  go_enter Try.func46, Try.ntmps46
  go_wp2_with (go_at_call 57; refine (isNaN64 _ _).mono ?_; rintro e w' ⟨rfl, hw⟩; obtain rfl := hw.symm)
  all_goals go_ret
  all_goals exact ⟨by simp [*], rfl⟩

def orL : List Int → Int
  | [] => 0
  | x :: l => if x = 0 then orL l else x
theorem orL_drop (l : List Int) (k : Nat) (h : k < l.length) : orL (l.drop k) = if l[k] = 0 then orL (l.drop (k + 1)) else l[k] := by
  rw [List.drop_eq_getElem_cons h]; rfl

set_option maxRecDepth 100000 in
set_option maxHeartbeats 400000 in
theorem orAny (b : Nat) (l : List Int) (w : World) (hl : l.length ≤ 100) (hc : ∀ j (h : j < l.length), w.cell? ⟨b, j, none⟩ = some (.int .i64 l[j])) :
    Calls Try.prog 44 #[.slice (some ⟨b, 0, none⟩) l.length l.length] w fun e w' => e = .returned (.int .i64 (orL l)) ∧ w' = w := by
  have H : ∀ z, z = orL l → Ending.returned (.int .i64 z) = .returned (.int .i64 (orL l)) := fun z h => by rw [h]
  go_enter Try.func44, Try.ntmps44
  go_wp2
  go_loop [8] (fun i => ∃ k : Nat, k ≤ l.length ∧ i = .int .i64 k ∧ Hid (orL l = orL (l.drop k))) (fun i => l.length - (intOf i).toNat)
  case atStart => exact ⟨0, Nat.zero_le _, rfl, rfl⟩
  case round =>
    obtain ⟨k, hk, rfl, hL⟩ := hrel
    by_cases hlt : k < l.length
    · have h2 := hc k hlt
      have h3 := orL_drop l k hlt
      by_cases hz : l[k] = 0
      · have hz' : (l[k] != 0) = false := by simpa using hz
        have h4 : Hid (orL l = orL (l.drop (k + 1))) := hid_mk (by rw [hL.out, h3, if_pos hz])
        clear h3 hz hL
        go_wp2
        exact ⟨⟨k + 1, by omega, by go_num, h4⟩, by simp [intOf]; omega⟩
      · have hz' : (l[k] != 0) = true := by simpa using hz
        have h4 : Hid (orL l = l[k]) := hid_mk (by rw [hL.out, h3, if_neg hz])
        clear h3 hz hL
        go_wp2
        go_ret
        exact ⟨H _ h4.out.symm, rfl⟩
    · have hk' : k = l.length := by omega
      have h4 : Hid (orL l = 0) := hid_mk (by rw [hL.out, hk']; simp [orL])
      clear hL hk'
      go_wp2
      go_ret
      exact ⟨H _ h4.out.symm, rfl⟩

set_option maxRecDepth 100000 in
set_option maxHeartbeats 400000 in
theorem spanMay (s e : Int) (w : World) : Calls Try.prog 50 #[.agg #[.int .i64 s, .int .i64 e]] w fun r w' => r = .returned (.bool (decide (s < e))) ∧ w' = w.alloc (.cells #[.int .i64 s, .int .i64 e] 28) := by
  go_enter Try.func50, Try.ntmps50
  go_wp2
  go_ret
  exact ⟨rfl, rfl⟩

set_option maxRecDepth 100000 in
set_option maxHeartbeats 400000 in
theorem spanJoin (s e s' e' : Int) (w : World) : Calls Try.prog 37 #[.agg #[.int .i64 s, .int .i64 e], .agg #[.int .i64 s', .int .i64 e']] w fun r w' => r = .returned (.agg #[.int .i64 (minI s s'), .int .i64 (maxI e e')]) ∧ Below w.heap.size w w' := by
  go_enter Try.func37, Try.ntmps37
  go_wp2
  all_goals refine bodyPost_ret (v := .agg #[.int .i64 (minI s s'), .int .i64 (maxI e e')]) ?_ rfl ⟨rfl, ?_⟩
  all_goals first | ((with_reducible show Below _ _ _); (iterate 24 (try (first | (with_reducible exact Below.size (by assumption)) | ((with_reducible show (_ : Nat) ≤ _); (try simp only [drewN_heap]); first | (with_reducible exact Below.size (by assumption)) | omega | (simp <;> omega)) | (with_reducible exact Below.refl _ _) | (with_reducible exact Below.size (Below.drew (by assumption))) | (with_reducible assumption) | (with_reducible refine Below.alloc ?_ ?_ _) | (with_reducible refine Below.drew ?_) | (with_reducible refine lib_below_drewN ?_ _) | (with_reducible refine Below.setCell ?_ ?_ _) | (with_reducible refine below_then ?_ ?_ (by assumption)))))) | simp [results, Try.results37, go_sem, minI_r, minI_l, maxI_r, maxI_l, *]

/-- what values come to: how many, their sum, the least, the greatest -/
structure Agg where
  n : Int
  sum : Int
  lo : Int
  hi : Int
  deriving DecidableEq
def Agg.cells (a : Agg) : List Value := [.int .i64 a.n, .int .i64 a.sum, .int .i64 a.lo, .int .i64 a.hi]
def Agg.val (a : Agg) : Value := .agg #[.int .i64 a.n, .int .i64 a.sum, .int .i64 a.lo, .int .i64 a.hi]
def Agg.one (v : Int) : Agg := ⟨1, v, v, v⟩
def Agg.merge (a b : Agg) : Agg := if a.n < 1 then b else if b.n < 1 then a else ⟨wrap64 (a.n + b.n), wrap64 (a.sum + b.sum), minI a.lo b.lo, maxI a.hi b.hi⟩
theorem Agg.merge_b {a b : Agg} (h : a.n < 1) : a.merge b = b := by unfold Agg.merge; rw [if_pos h]
theorem Agg.merge_a {a b : Agg} (h : ¬ a.n < 1) (h2 : b.n < 1) : a.merge b = a := by unfold Agg.merge; rw [if_neg h, if_pos h2]
theorem Agg.merge_ab {a b : Agg} (h : ¬ a.n < 1) (h2 : ¬ b.n < 1) : a.merge b = ⟨wrap64 (a.n + b.n), wrap64 (a.sum + b.sum), minI a.lo b.lo, maxI a.hi b.hi⟩ := by unfold Agg.merge; rw [if_neg h, if_neg h2]

set_option maxRecDepth 100000 in
set_option maxHeartbeats 400000 in
theorem aggMerge (a b : Agg) (w : World) : Calls Try.prog 38 #[a.val, b.val] w fun r w' => r = .returned (a.merge b).val ∧ Below w.heap.size w w' := by
  obtain ⟨n1, s1, l1, h1⟩ := a
  obtain ⟨n2, s2, l2, h2⟩ := b
  by_cases hn1 : n1 < 1
  · rw [Agg.merge_b (by exact hn1)]
    simp only [Agg.val]
    go_enter Try.func38, Try.ntmps38
    go_wp2
    all_goals refine bodyPost_ret (v := .agg #[.int .i64 n2, .int .i64 s2, .int .i64 l2, .int .i64 h2]) ?_ rfl ⟨rfl, ?_⟩
    all_goals first | ((with_reducible show Below _ _ _); (iterate 24 (try (first | (with_reducible exact Below.size (by assumption)) | ((with_reducible show (_ : Nat) ≤ _); (try simp only [drewN_heap]); first | (with_reducible exact Below.size (by assumption)) | omega | (simp <;> omega)) | (with_reducible exact Below.refl _ _) | (with_reducible exact Below.size (Below.drew (by assumption))) | (with_reducible assumption) | (with_reducible refine Below.alloc ?_ ?_ _) | (with_reducible refine Below.drew ?_) | (with_reducible refine lib_below_drewN ?_ _) | (with_reducible refine Below.setCell ?_ ?_ _) | (with_reducible refine below_then ?_ ?_ (by assumption)))))) | simp [results, Try.results38, go_sem,  *]
  · by_cases hn2 : n2 < 1
    · rw [Agg.merge_a (by exact hn1) (by exact hn2)]
      simp only [Agg.val]
      go_enter Try.func38, Try.ntmps38
      go_wp2
      all_goals refine bodyPost_ret (v := .agg #[.int .i64 n1, .int .i64 s1, .int .i64 l1, .int .i64 h1]) ?_ rfl ⟨rfl, ?_⟩
      all_goals first | ((with_reducible show Below _ _ _); (iterate 24 (try (first | (with_reducible exact Below.size (by assumption)) | ((with_reducible show (_ : Nat) ≤ _); (try simp only [drewN_heap]); first | (with_reducible exact Below.size (by assumption)) | omega | (simp <;> omega)) | (with_reducible exact Below.refl _ _) | (with_reducible exact Below.size (Below.drew (by assumption))) | (with_reducible assumption) | (with_reducible refine Below.alloc ?_ ?_ _) | (with_reducible refine Below.drew ?_) | (with_reducible refine lib_below_drewN ?_ _) | (with_reducible refine Below.setCell ?_ ?_ _) | (with_reducible refine below_then ?_ ?_ (by assumption)))))) | simp [results, Try.results38, go_sem,  *]
    · rw [Agg.merge_ab (by exact hn1) (by exact hn2)]
      simp only [Agg.val]
      go_enter Try.func38, Try.ntmps38
      go_wp2
      all_goals refine bodyPost_ret (v := .agg #[.int .i64 (wrap64 (n1 + n2)), .int .i64 (wrap64 (s1 + s2)), .int .i64 (minI l1 l2), .int .i64 (maxI h1 h2)]) ?_ rfl ⟨rfl, ?_⟩
      all_goals first | ((with_reducible show Below _ _ _); (iterate 24 (try (first | (with_reducible exact Below.size (by assumption)) | ((with_reducible show (_ : Nat) ≤ _); (try simp only [drewN_heap]); first | (with_reducible exact Below.size (by assumption)) | omega | (simp <;> omega)) | (with_reducible exact Below.refl _ _) | (with_reducible exact Below.size (Below.drew (by assumption))) | (with_reducible assumption) | (with_reducible refine Below.alloc ?_ ?_ _) | (with_reducible refine Below.drew ?_) | (with_reducible refine lib_below_drewN ?_ _) | (with_reducible refine Below.setCell ?_ ?_ _) | (with_reducible refine below_then ?_ ?_ (by assumption)))))) | simp [results, Try.results38, go_sem, minI_r, minI_l, maxI_r, maxI_l, *]

set_option maxRecDepth 100000 in
set_option maxHeartbeats 400000 in
theorem aggOf (v : Int) (w : World) : Calls Try.prog 35 #[.int .i64 v] w fun r w' => r = .returned (Agg.one v).val ∧ Below w.heap.size w w' := by
  simp only [Agg.val, Agg.one]
  go_enter Try.func35, Try.ntmps35
  go_wp2
  all_goals refine bodyPost_ret (v := .agg #[.int .i64 1, .int .i64 v, .int .i64 v, .int .i64 v]) ?_ rfl ⟨rfl, ?_⟩
  all_goals first | ((with_reducible show Below _ _ _); (iterate 24 (try (first | (with_reducible exact Below.size (by assumption)) | ((with_reducible show (_ : Nat) ≤ _); (try simp only [drewN_heap]); first | (with_reducible exact Below.size (by assumption)) | omega | (simp <;> omega)) | (with_reducible exact Below.refl _ _) | (with_reducible exact Below.size (Below.drew (by assumption))) | (with_reducible assumption) | (with_reducible refine Below.alloc ?_ ?_ _) | (with_reducible refine Below.drew ?_) | (with_reducible refine lib_below_drewN ?_ _) | (with_reducible refine Below.setCell ?_ ?_ _) | (with_reducible refine below_then ?_ ?_ (by assumption)))))) | simp [results, Try.results35, go_sem,  *]

set_option maxRecDepth 100000 in
set_option maxHeartbeats 400000 in
theorem aggAdd (a : Agg) (v : Int) (w : World) : Calls Try.prog 42 #[a.val, .int .i64 v] w fun r w' => r = .returned (a.merge (Agg.one v)).val ∧ Below w.heap.size w w' := by
  obtain ⟨n1, s1, l1, h1⟩ := a
  generalize hm : (Agg.merge ⟨n1, s1, l1, h1⟩ (Agg.one v)) = m
  have Hm := hid_mk hm
  clear hm
  obtain ⟨n2, s2, l2, h2⟩ := m
  simp only [Agg.val]
  go_enter Try.func42, Try.ntmps42
  go_wp2
  refine wp_region_free 2 (by kernel_rfl) (by kernel_rfl) (by kernel_rfl) (fun W => Blk W w.heap.size #[.int .i64 n1, .int .i64 s1, .int .i64 l1, .int .i64 h1] 30) ((Blk.new _ _ _).alloc _).drew ?_ (by decide)
  simp only [List.take_succ_cons, List.take_zero, List.drop_succ_cons, List.drop_zero]
  go_big_quiet_want
  refine ⟨.agg #[.int .i64 n1, .int .i64 s1, .int .i64 l1, .int .i64 h1], fun W hW => ?_, ?_⟩
  · obtain ⟨hc, hf⟩ := blk_facts hW
    go_simp
  go_simp
  go_big_quiet_on
  go_big_quiet_step ((fail))
  refine wpQuiet_nil ?_
  refine wpPin_loud _ rfl ?_
  rintro W rfl
  go_wp2_with fail
  refine (aggOf v _).mono ?_
  rintro e w1 ⟨rfl, hb1⟩
  simp only [Agg.val, Agg.one]
  have A1 : Blk w1 w.heap.size _ _ := (((Blk.new _ _ _).alloc _).drew).below hb1
  have R1 : Blk w1 (w.heap.size + 1) _ _ := ((Blk.new2 _ _ _ _).drew).below hb1
  have Z1 : Below w.heap.size w w1 := by
    refine below_then ?_ ?_ hb1
    (iterate 24 (try (first | (with_reducible exact Below.size (by assumption)) | ((with_reducible show (_ : Nat) ≤ _); (try simp only [drewN_heap]); first | (with_reducible exact Below.size (by assumption)) | omega | (simp <;> omega)) | (with_reducible exact Below.refl _ _) | (with_reducible exact Below.size (Below.drew (by assumption))) | (with_reducible assumption) | (with_reducible refine Below.alloc ?_ ?_ _) | (with_reducible refine Below.drew ?_) | (with_reducible refine lib_below_drewN ?_ _) | (with_reducible refine Below.setCell ?_ ?_ _) | (with_reducible refine below_then ?_ ?_ (by assumption)))))
  clear hb1
  go_wp2_with fail
  refine ⟨fun W => _ = W, rfl, fun W hW => by rw [← hW]; exact A1, ?_⟩
  refine wpPin_loud _ rfl ?_
  rintro W rfl
  go_wp2_with fail
  refine (aggMerge ⟨n1, s1, l1, h1⟩ (Agg.one v) _).mono ?_
  rw [Hm.out]
  rintro e w2 ⟨rfl, hb2⟩
  simp only [Agg.val]
  have A2 := A1.below hb2
  have R2 := R1.below hb2
  have Z2 : Below w.heap.size w w2 := by
    refine below_then ?_ ?_ hb2
    (iterate 24 (try (first | (with_reducible exact Below.size (by assumption)) | ((with_reducible show (_ : Nat) ≤ _); (try simp only [drewN_heap]); first | (with_reducible exact Below.size (by assumption)) | omega | (simp <;> omega)) | (with_reducible exact Below.refl _ _) | (with_reducible exact Below.size (Below.drew (by assumption))) | (with_reducible assumption) | (with_reducible refine Below.alloc ?_ ?_ _) | (with_reducible refine Below.drew ?_) | (with_reducible refine lib_below_drewN ?_ _) | (with_reducible refine Below.setCell ?_ ?_ _) | (with_reducible refine below_then ?_ ?_ (by assumption)))))
  clear hb2
  go_wp2_with fail
  refine ⟨fun W => _ = W, rfl, fun W hW => by rw [← hW]; exact A2, ?_⟩
  refine wpPin_loud _ rfl ?_
  rintro W rfl
  obtain ⟨hc2, hf2⟩ := blk_facts R2
  go_wp2
  refine ⟨fun W => _ = W, rfl, fun W hW => by rw [← hW]; exact (by repeat (first | exact A2 | refine Blk.setOther ?_ (by simp))), ?_⟩
  rintro W rfl
  refine NoPanic.normal ?_
  go_wp2
  all_goals refine bodyPost_ret (v := .agg #[.int .i64 n2, .int .i64 s2, .int .i64 l2, .int .i64 h2]) ?_ rfl ⟨rfl, ?_⟩
  all_goals first | ((with_reducible show Below _ _ _); (iterate 24 (try (first | (with_reducible exact Below.size (by assumption)) | ((with_reducible show (_ : Nat) ≤ _); (try simp only [drewN_heap]); first | (with_reducible exact Below.size (by assumption)) | omega | (simp <;> omega)) | (with_reducible exact Below.refl _ _) | (with_reducible exact Below.size (Below.drew (by assumption))) | (with_reducible assumption) | (with_reducible refine Below.alloc ?_ ?_ _) | (with_reducible refine Below.drew ?_) | (with_reducible refine lib_below_drewN ?_ _) | (with_reducible refine Below.setCell ?_ ?_ _) | (with_reducible refine below_then ?_ ?_ (by assumption)))))) | simp [results, Try.results42, go_sem,  *]
end Go.Proofs.Ytkmjehodmfnihaa
