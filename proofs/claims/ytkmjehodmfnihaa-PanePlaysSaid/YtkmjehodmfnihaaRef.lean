/-
  The references of the first layers: One, Join, Merge, Meet, Compare; Pick.
-/
import Derived.Test.YtkmjehodmfnihaaCut
set_option linter.unusedSimpArgs false
set_option linter.unusedVariables false
namespace Go.Proofs.Ytkmjehodmfnihaa
open Go.RowKit

set_option maxRecDepth 100000 in
set_option maxHeartbeats 400000 in
theorem refOne (v : Int) (w : World) : Calls Try.prog 18 #[.int .i64 v] w fun r w' => r = .returned (Agg.one v).val ∧ Below w.heap.size w w' := by
  simp only [Agg.val, Agg.one]
  go_enter Try.func18, Try.ntmps18
  go_wp2
  all_goals refine bodyPost_ret (v := .agg #[.int .i64 1, .int .i64 v, .int .i64 v, .int .i64 v]) ?_ rfl ⟨rfl, ?_⟩
  all_goals first | ((with_reducible show Below _ _ _); (iterate 24 (try (first | (with_reducible exact Below.size (by assumption)) | ((with_reducible show (_ : Nat) ≤ _); (try simp only [drewN_heap]); first | (with_reducible exact Below.size (by assumption)) | omega | (simp <;> omega)) | (with_reducible exact Below.refl _ _) | (with_reducible exact Below.size (Below.drew (by assumption))) | (with_reducible assumption) | (with_reducible refine Below.alloc ?_ ?_ _) | (with_reducible refine Below.drew ?_) | (with_reducible refine lib_below_drewN ?_ _) | (with_reducible refine Below.setCell ?_ ?_ _) | (with_reducible refine below_then ?_ ?_ (by assumption)))))) | simp [results, Try.results18, go_sem,  *]

set_option maxRecDepth 100000 in
set_option maxHeartbeats 400000 in
theorem refJoin (s e s' e' : Int) (w : World) : Calls Try.prog 21 #[.agg #[.int .i64 s, .int .i64 e], .agg #[.int .i64 s', .int .i64 e']] w fun r w' => r = .returned (.agg #[.int .i64 (minI s s'), .int .i64 (maxI e e')]) ∧ Below w.heap.size w w' := by
  go_enter Try.func21, Try.ntmps21
  go_wp2
  all_goals refine bodyPost_ret (v := .agg #[.int .i64 (minI s s'), .int .i64 (maxI e e')]) ?_ rfl ⟨rfl, ?_⟩
  all_goals first | ((with_reducible show Below _ _ _); (iterate 24 (try (first | (with_reducible exact Below.size (by assumption)) | ((with_reducible show (_ : Nat) ≤ _); (try simp only [drewN_heap]); first | (with_reducible exact Below.size (by assumption)) | omega | (simp <;> omega)) | (with_reducible exact Below.refl _ _) | (with_reducible exact Below.size (Below.drew (by assumption))) | (with_reducible assumption) | (with_reducible refine Below.alloc ?_ ?_ _) | (with_reducible refine Below.drew ?_) | (with_reducible refine lib_below_drewN ?_ _) | (with_reducible refine Below.setCell ?_ ?_ _) | (with_reducible refine below_then ?_ ?_ (by assumption)))))) | simp [results, Try.results21, go_sem, minI_r, minI_l, maxI_r, maxI_l, *]

set_option maxRecDepth 100000 in
set_option maxHeartbeats 400000 in
theorem refMerge (a b : Agg) (w : World) : Calls Try.prog 22 #[a.val, b.val] w fun r w' => r = .returned (a.merge b).val ∧ Below w.heap.size w w' := by
  obtain ⟨n1, s1, l1, h1⟩ := a
  obtain ⟨n2, s2, l2, h2⟩ := b
  by_cases hn1 : n1 < 1
  · rw [Agg.merge_b (by exact hn1)]
    simp only [Agg.val]
    go_enter Try.func22, Try.ntmps22
    go_wp2
    all_goals refine bodyPost_ret (v := .agg #[.int .i64 n2, .int .i64 s2, .int .i64 l2, .int .i64 h2]) ?_ rfl ⟨rfl, ?_⟩
    all_goals first | ((with_reducible show Below _ _ _); (iterate 24 (try (first | (with_reducible exact Below.size (by assumption)) | ((with_reducible show (_ : Nat) ≤ _); (try simp only [drewN_heap]); first | (with_reducible exact Below.size (by assumption)) | omega | (simp <;> omega)) | (with_reducible exact Below.refl _ _) | (with_reducible exact Below.size (Below.drew (by assumption))) | (with_reducible assumption) | (with_reducible refine Below.alloc ?_ ?_ _) | (with_reducible refine Below.drew ?_) | (with_reducible refine lib_below_drewN ?_ _) | (with_reducible refine Below.setCell ?_ ?_ _) | (with_reducible refine below_then ?_ ?_ (by assumption)))))) | simp [results, Try.results22, go_sem,  *]
  · by_cases hn2 : n2 < 1
    · rw [Agg.merge_a (by exact hn1) (by exact hn2)]
      simp only [Agg.val]
      go_enter Try.func22, Try.ntmps22
      go_wp2
      all_goals refine bodyPost_ret (v := .agg #[.int .i64 n1, .int .i64 s1, .int .i64 l1, .int .i64 h1]) ?_ rfl ⟨rfl, ?_⟩
      all_goals first | ((with_reducible show Below _ _ _); (iterate 24 (try (first | (with_reducible exact Below.size (by assumption)) | ((with_reducible show (_ : Nat) ≤ _); (try simp only [drewN_heap]); first | (with_reducible exact Below.size (by assumption)) | omega | (simp <;> omega)) | (with_reducible exact Below.refl _ _) | (with_reducible exact Below.size (Below.drew (by assumption))) | (with_reducible assumption) | (with_reducible refine Below.alloc ?_ ?_ _) | (with_reducible refine Below.drew ?_) | (with_reducible refine lib_below_drewN ?_ _) | (with_reducible refine Below.setCell ?_ ?_ _) | (with_reducible refine below_then ?_ ?_ (by assumption)))))) | simp [results, Try.results22, go_sem,  *]
    · rw [Agg.merge_ab (by exact hn1) (by exact hn2)]
      simp only [Agg.val]
      have hsum : wrap64 (IntKind.u64.wrap (IntKind.u64.wrap s1 + IntKind.u64.wrap s2)) = wrap64 (s1 + s2) := by
        simp only [IntKind.wrap, IntKind.bits, wrap64]; simp; omega
      go_enter Try.func22, Try.ntmps22
      go_wp2
      all_goals refine bodyPost_ret (v := .agg #[.int .i64 (wrap64 (n1 + n2)), .int .i64 (wrap64 (s1 + s2)), .int .i64 (minI l1 l2), .int .i64 (maxI h1 h2)]) ?_ rfl ⟨rfl, ?_⟩
      all_goals first | ((with_reducible show Below _ _ _); (iterate 24 (try (first | (with_reducible exact Below.size (by assumption)) | ((with_reducible show (_ : Nat) ≤ _); (try simp only [drewN_heap]); first | (with_reducible exact Below.size (by assumption)) | omega | (simp <;> omega)) | (with_reducible exact Below.refl _ _) | (with_reducible exact Below.size (Below.drew (by assumption))) | (with_reducible assumption) | (with_reducible refine Below.alloc ?_ ?_ _) | (with_reducible refine Below.drew ?_) | (with_reducible refine lib_below_drewN ?_ _) | (with_reducible refine Below.setCell ?_ ?_ _) | (with_reducible refine below_then ?_ ?_ (by assumption)))))) | simp [results, Try.results22, go_sem, minI_r, minI_l, maxI_r, maxI_l, *]

set_option maxRecDepth 100000 in
set_option maxHeartbeats 400000 in
theorem refMeet (s1 e1 s2 e2 : Int) (w : World) :
    Calls Try.prog 20 #[.agg #[.int .i64 s1, .int .i64 e1], .agg #[.int .i64 s2, .int .i64 e2]] w fun e w' => e = .returned (.bool (decide (maxI s1 s2 < e1) && decide (maxI s1 s2 < e2))) ∧ Below w.heap.size w w' := by
  have h0 : ∀ z, z = (decide (maxI s1 s2 < e1) && decide (maxI s1 s2 < e2)) → Ending.returned (.bool z) = .returned (.bool (decide (maxI s1 s2 < e1) && decide (maxI s1 s2 < e2))) := fun b h => by rw [h]
  by_cases hm : s1 < s2
  · rw [maxI_r hm] at h0 ⊢
    by_cases h1 : s2 < e1 <;>
    · go_enter Try.func20, Try.ntmps20
      go_wp2
      all_goals go_ret
      all_goals refine ⟨h0 _ (by first | (simp [h1]; done) | (simp; omega) | (simp [*]; done) | (simp_all; omega)), ?_⟩
      all_goals (iterate 24 (try (first | (with_reducible exact Below.size (by assumption)) | ((with_reducible show (_ : Nat) ≤ _); (try simp only [drewN_heap]); first | (with_reducible exact Below.size (by assumption)) | omega | (simp <;> omega)) | (with_reducible exact Below.refl _ _) | (with_reducible exact Below.size (Below.drew (by assumption))) | (with_reducible assumption) | (with_reducible refine Below.alloc ?_ ?_ _) | (with_reducible refine Below.drew ?_) | (with_reducible refine lib_below_drewN ?_ _) | (with_reducible refine Below.setCell ?_ ?_ _) | (with_reducible refine below_then ?_ ?_ (by assumption)))))
  · rw [maxI_l (by omega)] at h0 ⊢
    by_cases h1 : s1 < e1 <;>
    · go_enter Try.func20, Try.ntmps20
      go_wp2
      all_goals go_ret
      all_goals refine ⟨h0 _ (by first | (simp [h1]; done) | (simp; omega) | (simp [*]; done) | (simp_all; omega)), ?_⟩
      all_goals (iterate 24 (try (first | (with_reducible exact Below.size (by assumption)) | ((with_reducible show (_ : Nat) ≤ _); (try simp only [drewN_heap]); first | (with_reducible exact Below.size (by assumption)) | omega | (simp <;> omega)) | (with_reducible exact Below.refl _ _) | (with_reducible exact Below.size (Below.drew (by assumption))) | (with_reducible assumption) | (with_reducible refine Below.alloc ?_ ?_ _) | (with_reducible refine Below.drew ?_) | (with_reducible refine lib_below_drewN ?_ _) | (with_reducible refine Below.setCell ?_ ?_ _) | (with_reducible refine below_then ?_ ?_ (by assumption)))))

/-- Pick of 3 -/
def pickI (c : Int) : Int := if c < 0 then (-(c + 1)) % 3 else c % 3
set_option maxRecDepth 100000 in
set_option maxHeartbeats 400000 in
theorem refPick (c : Int) (w : World) (hc : fit c = true) : Calls Try.prog 19 #[.int .i64 c, .int .i64 3] w fun e w' => e = .returned (.int .i64 (pickI c)) ∧ Below w.heap.size w w' := by
  have hf := (fit_iff c).1 hc
  have h0 : ∀ z, z = pickI c → Ending.returned (.int .i64 z) = .returned (.int .i64 (pickI c)) := fun b h => by rw [h]
  by_cases hn : c < 0
  · go_enter Try.func19, Try.ntmps19
    go_wp2
    go_ret
    refine ⟨h0 _ (by unfold pickI; rw [if_pos (by omega)]; first | (rw [← Int.neg_tmod, Int.tmod_eq_emod_of_nonneg (by omega)]; done) | (rw [Int.tmod_eq_emod_of_nonneg (by omega)]; done)), ?_⟩
    (iterate 24 (try (first | (with_reducible exact Below.size (by assumption)) | ((with_reducible show (_ : Nat) ≤ _); (try simp only [drewN_heap]); first | (with_reducible exact Below.size (by assumption)) | omega | (simp <;> omega)) | (with_reducible exact Below.refl _ _) | (with_reducible exact Below.size (Below.drew (by assumption))) | (with_reducible assumption) | (with_reducible refine Below.alloc ?_ ?_ _) | (with_reducible refine Below.drew ?_) | (with_reducible refine lib_below_drewN ?_ _) | (with_reducible refine Below.setCell ?_ ?_ _) | (with_reducible refine below_then ?_ ?_ (by assumption)))))
  · go_enter Try.func19, Try.ntmps19
    go_wp2
    go_ret
    refine ⟨h0 _ (by unfold pickI; rw [if_neg (by omega)]; first | done | rw [Int.tmod_eq_emod_of_nonneg (by omega)]), ?_⟩
    (iterate 24 (try (first | (with_reducible exact Below.size (by assumption)) | ((with_reducible show (_ : Nat) ≤ _); (try simp only [drewN_heap]); first | (with_reducible exact Below.size (by assumption)) | omega | (simp <;> omega)) | (with_reducible exact Below.refl _ _) | (with_reducible exact Below.size (Below.drew (by assumption))) | (with_reducible assumption) | (with_reducible refine Below.alloc ?_ ?_ _) | (with_reducible refine Below.drew ?_) | (with_reducible refine lib_below_drewN ?_ _) | (with_reducible refine Below.setCell ?_ ?_ _) | (with_reducible refine below_then ?_ ?_ (by assumption)))))

set_option maxRecDepth 100000 in
set_option maxHeartbeats 800000 in
theorem refCompare (s1 e1 s2 e2 : Int) (w : World) :
    Calls Try.prog 34 #[.agg #[.int .i64 s1, .int .i64 e1], .agg #[.int .i64 s2, .int .i64 e2]] w fun e w' => e = .returned (.int .i64 (cmpS s1 e1 s2 e2)) ∧ Below w.heap.size w w' := by
  have h0 : ∀ z, z = cmpS s1 e1 s2 e2 → Ending.returned (.int .i64 z) = .returned (.int .i64 (cmpS s1 e1 s2 e2)) := fun b h => by rw [h]
  have heq := fun W => eqlS ⟨s1, e1⟩ ⟨s2, e2⟩ W
  have hg := eqgS
  simp only [Span.val] at heq
  by_cases a1 : s1 < s2
  · go_enter Try.func34, Try.ntmps34
    go_wp2
    all_goals go_ret
    all_goals refine ⟨h0 _ (by unfold cmpS orI cmpI; simp [a1]), ?_⟩
    all_goals (iterate 24 (try (first | (with_reducible exact Below.size (by assumption)) | ((with_reducible show (_ : Nat) ≤ _); (try simp only [drewN_heap]); first | (with_reducible exact Below.size (by assumption)) | omega | (simp <;> omega)) | (with_reducible exact Below.refl _ _) | (with_reducible exact Below.size (Below.drew (by assumption))) | (with_reducible assumption) | (with_reducible refine Below.alloc ?_ ?_ _) | (with_reducible refine Below.drew ?_) | (with_reducible refine lib_below_drewN ?_ _) | (with_reducible refine Below.setCell ?_ ?_ _) | (with_reducible refine below_then ?_ ?_ (by assumption)))))
  · by_cases a2 : s1 = s2
    · by_cases a3 : e1 < e2
      · go_enter Try.func34, Try.ntmps34
        go_wp2
        all_goals go_ret
        all_goals refine ⟨h0 _ (by unfold cmpS orI cmpI; simp [a1, a2, a3]), ?_⟩
        all_goals (iterate 24 (try (first | (with_reducible exact Below.size (by assumption)) | ((with_reducible show (_ : Nat) ≤ _); (try simp only [drewN_heap]); first | (with_reducible exact Below.size (by assumption)) | omega | (simp <;> omega)) | (with_reducible exact Below.refl _ _) | (with_reducible exact Below.size (Below.drew (by assumption))) | (with_reducible assumption) | (with_reducible refine Below.alloc ?_ ?_ _) | (with_reducible refine Below.drew ?_) | (with_reducible refine lib_below_drewN ?_ _) | (with_reducible refine Below.setCell ?_ ?_ _) | (with_reducible refine below_then ?_ ?_ (by assumption)))))
      · have heq' : ∀ W, _ := heq
        go_enter Try.func34, Try.ntmps34
        go_wp2
        all_goals go_ret
        all_goals refine ⟨h0 _ (by unfold cmpS orI cmpI; (repeat' split) <;> first | omega | simp_all), ?_⟩
        all_goals (iterate 24 (try (first | (with_reducible exact Below.size (by assumption)) | ((with_reducible show (_ : Nat) ≤ _); (try simp only [drewN_heap]); first | (with_reducible exact Below.size (by assumption)) | omega | (simp <;> omega)) | (with_reducible exact Below.refl _ _) | (with_reducible exact Below.size (Below.drew (by assumption))) | (with_reducible assumption) | (with_reducible refine Below.alloc ?_ ?_ _) | (with_reducible refine Below.drew ?_) | (with_reducible refine lib_below_drewN ?_ _) | (with_reducible refine Below.setCell ?_ ?_ _) | (with_reducible refine below_then ?_ ?_ (by assumption)))))
    · go_enter Try.func34, Try.ntmps34
      go_wp2
      all_goals go_ret
      all_goals refine ⟨h0 _ (by unfold cmpS orI cmpI; (repeat' split) <;> first | omega | simp_all), ?_⟩
      all_goals (iterate 24 (try (first | (with_reducible exact Below.size (by assumption)) | ((with_reducible show (_ : Nat) ≤ _); (try simp only [drewN_heap]); first | (with_reducible exact Below.size (by assumption)) | omega | (simp <;> omega)) | (with_reducible exact Below.refl _ _) | (with_reducible exact Below.size (Below.drew (by assumption))) | (with_reducible assumption) | (with_reducible refine Below.alloc ?_ ?_ _) | (with_reducible refine Below.drew ?_) | (with_reducible refine lib_below_drewN ?_ _) | (with_reducible refine Below.setCell ?_ ?_ _) | (with_reducible refine below_then ?_ ?_ (by assumption)))))
end Go.Proofs.Ytkmjehodmfnihaa
