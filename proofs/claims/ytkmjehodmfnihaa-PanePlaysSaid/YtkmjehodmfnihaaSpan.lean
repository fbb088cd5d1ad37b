/-
  The walks of layer 2 (span).
-/
import Derived.Test.YtkmjehodmfnihaaNum
set_option linter.unusedSimpArgs false
set_option linter.unusedVariables false
namespace Go.Proofs.Ytkmjehodmfnihaa
open Go.RowKit

/-- is a window over? -/
def overB (e late mark : Int) : Bool := decide (e + late ≤ mark)

/-- a window's order: by Start, then by End -/
def cmpS (s1 e1 s2 e2 : Int) : Int := orI (cmpI s1 s2) (cmpI e1 e2)

set_option maxRecDepth 100000 in
set_option maxHeartbeats 400000 in
theorem spanCompare (s1 e1 s2 e2 : Int) (w : World) :
    Calls Try.prog 47 #[.agg #[.int .i64 s1, .int .i64 e1], .agg #[.int .i64 s2, .int .i64 e2]] w fun e w' => e = .returned (.int .i64 (cmpS s1 e1 s2 e2)) ∧ Below w.heap.size w w' := by
  have h0 : ∀ z, z = cmpS s1 e1 s2 e2 → Ending.returned (.int .i64 z) = .returned (.int .i64 (cmpS s1 e1 s2 e2)) := fun b h => by rw [h]
  have hr : orL [cmpI s1 s2, cmpI e1 e2] = cmpS s1 e1 s2 e2 := by unfold cmpS orI; simp only [orL]; split <;> simp_all
  have H := hid_mk hr
  clear hr
  go_enter Try.func47, Try.ntmps47
  go_wp2
  refine wp_region_head 10 (by kernel_rfl) (by kernel_rfl) (fun W => ∃ n, W = World.drewN ((w.alloc _).alloc _) n) ⟨1, rfl⟩ ?_ (by decide)
  simp only [List.take_succ_cons, List.take_zero, List.drop_succ_cons, List.drop_zero]
  repeat (go_big_quiet_step (((go_at_call 46; exact Calls.quiet_of_same (cmp64 _ _ _)))))
  refine wpQuiet_nil ?_
  rintro W ⟨nq, rfl⟩
  go_wp2_with fail
  refine (orAny _ [cmpI s1 s2, cmpI e1 e2] _ (by simp) ?_).mono ?_
  · intro j hj
    match j, hj with
    | 0, _ => go_simp
    | 1, _ => go_simp
  rintro e w' ⟨rfl, hw⟩; obtain rfl := hw.symm
  go_wp2
  refine NoPanic.normal ?_
  go_wp2
  go_ret
  refine ⟨h0 _ H, ?_⟩
  (iterate 24 (try (first | (with_reducible exact Below.size (by assumption)) | ((with_reducible show (_ : Nat) ≤ _); (try simp only [drewN_heap]); first | (with_reducible exact Below.size (by assumption)) | omega | (simp <;> omega)) | (with_reducible exact Below.refl _ _) | (with_reducible exact Below.size (Below.drew (by assumption))) | (with_reducible assumption) | (with_reducible refine Below.alloc ?_ ?_ _) | (with_reducible refine Below.drew ?_) | (with_reducible refine lib_below_drewN ?_ _) | (with_reducible refine Below.setCell ?_ ?_ _) | (with_reducible refine below_then ?_ ?_ (by assumption)))))

/-- do two windows meet? -/
def meetB (s1 e1 s2 e2 : Int) : Bool := decide (s1 < e1) && decide (s2 < e2) && decide (s1 < e2) && decide (s2 < e1)

set_option maxRecDepth 100000 in
set_option maxHeartbeats 400000 in
theorem spanMeet (s1 e1 s2 e2 : Int) (w : World) :
    Calls Try.prog 36 #[.agg #[.int .i64 s1, .int .i64 e1], .agg #[.int .i64 s2, .int .i64 e2]] w fun e w' => e = .returned (.bool (meetB s1 e1 s2 e2)) ∧ Below w.heap.size w w' := by
  have h0 : ∀ z, z = meetB s1 e1 s2 e2 → Ending.returned (.bool z) = .returned (.bool (meetB s1 e1 s2 e2)) := fun b h => by rw [h]
  have key : ∀ b1 b2 b3 b4 : Bool, decide (s1 < e1) = b1 → decide (s2 < e2) = b2 → decide (s1 < e2) = b3 → decide (s2 < e1) = b4 → Hid (meetB s1 e1 s2 e2 = (b1 && b2 && b3 && b4)) := by
    rintro _ _ _ _ rfl rfl rfl rfl; exact hid_mk rfl
  generalize h1 : decide (s1 < e1) = b1 at key
  generalize h2 : decide (s2 < e2) = b2 at key
  have H := key _ _ _ _ rfl rfl rfl rfl
  clear key
  cases b1 <;> cases b2
  all_goals
    by_cases a3 : s1 < e2
    all_goals
      simp only [a3, decide_true, decide_false, Bool.and_true, Bool.true_and, Bool.and_false, Bool.false_and] at H
      go_enter Try.func36, Try.ntmps36
      go_wp2_with ((go_at_call 50; refine (spanMay _ _ _).mono ?_; rintro e w' ⟨rfl, rfl⟩))
      go_ret
      refine ⟨h0 _ (by rw [H.out]), ?_⟩
      (iterate 24 (try (first | (with_reducible exact Below.size (by assumption)) | ((with_reducible show (_ : Nat) ≤ _); (try simp only [drewN_heap]); first | (with_reducible exact Below.size (by assumption)) | omega | (simp <;> omega)) | (with_reducible exact Below.refl _ _) | (with_reducible exact Below.size (Below.drew (by assumption))) | (with_reducible assumption) | (with_reducible refine Below.alloc ?_ ?_ _) | (with_reducible refine Below.drew ?_) | (with_reducible refine lib_below_drewN ?_ _) | (with_reducible refine Below.setCell ?_ ?_ _) | (with_reducible refine below_then ?_ ?_ (by assumption)))))
end Go.Proofs.Ytkmjehodmfnihaa
