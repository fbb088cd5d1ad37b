/-
  easellaw07.up: the document's example.
-/
import Derived.Test.YtkmjehodmfnihaaMerge
set_option linter.unusedSimpArgs false
set_option linter.unusedVariables false
namespace Go.Proofs.Ytkmjehodmfnihaa
open Go.RowKit

def keyA : ByteArray := ⟨#[97]⟩
theorem up7_1 : putP [] keyA ⟨15, 25⟩ 2 = [⟨keyA, ⟨15, 25⟩, ⟨1, 2, 2, 2⟩⟩] := by rfl
theorem up7_2 : putP [⟨keyA, ⟨15, 25⟩, ⟨1, 2, 2, 2⟩⟩] keyA ⟨0, 10⟩ 1 = [⟨keyA, ⟨0, 10⟩, ⟨1, 1, 1, 1⟩⟩, ⟨keyA, ⟨15, 25⟩, ⟨1, 2, 2, 2⟩⟩] := by rfl
def up7L : List Pane := [⟨keyA, ⟨0, 10⟩, ⟨1, 1, 1, 1⟩⟩, ⟨keyA, ⟨15, 25⟩, ⟨1, 2, 2, 2⟩⟩]
theorem up7_o : outM up7L ⟨8, 18⟩ = [] := by rfl
theorem up7_m : (metM up7L ⟨8, 18⟩).map Pane.sp = [⟨0, 10⟩, ⟨15, 25⟩] := by rfl
theorem up7_a : accM ⟨keyA, ⟨8, 18⟩, Agg.one 4⟩ up7L ⟨8, 18⟩ = ⟨keyA, ⟨0, 25⟩, ⟨3, 7, 1, 4⟩⟩ := by kernel_rfl
theorem up7_d : dropS [⟨0, 10⟩, ⟨15, 25⟩] ⟨0, 25⟩ = [⟨0, 10⟩, ⟨15, 25⟩] := by rfl
theorem up7_h : hasP up7L ⟨0, 10⟩ = true := by rfl
theorem up7_f : findP up7L ⟨0, 10⟩ = ⟨keyA, ⟨0, 10⟩, ⟨1, 1, 1, 1⟩⟩ := by rfl

set_option maxRecDepth 100000 in
set_option maxHeartbeats 800000 in
theorem law07up (w : World) : Calls Try.prog 17 #[] w fun e w' => e = .returned (.bool true) ∧ Below w.heap.size w w' := by
  have hg := eqgS
  go_enter Try.func17, Try.ntmps17
  go_wp2_with fail
  refine (panePut _ [] keyA ⟨15, 25⟩ 2 _ (Rd.nil _) (by simp) List.Pairwise.nil).mono ?_
  rintro e w1 ⟨v1, rfl, hO1, hb1⟩
  rw [up7_1] at hO1
  go_wp2_with fail
  refine (panePut _ _ keyA ⟨0, 10⟩ 1 _ hO1.rd (by simp) (by simp [RisP])).mono ?_
  rintro e w2 ⟨v2, rfl, hO2, hb2⟩
  rw [up7_2] at hO2
  have hO2 : Own encP 32 w2 w1.heap.size v2 up7L := hO2
  have Z2 : Below w.heap.size w w2 := by
    refine below_then ?_ ?_ hb2
    (iterate 24 (try (first | (with_reducible exact Below.size (by assumption)) | ((with_reducible show (_ : Nat) ≤ _); (try simp only [drewN_heap]); first | (with_reducible exact Below.size (by assumption)) | omega | (simp <;> omega)) | (with_reducible exact Below.refl _ _) | (with_reducible exact Below.size (Below.drew (by assumption))) | (with_reducible assumption) | (with_reducible refine Below.alloc ?_ ?_ _) | (with_reducible refine Below.drew ?_) | (with_reducible refine lib_below_drewN ?_ _) | (with_reducible refine Below.setCell ?_ ?_ _) | (with_reducible refine below_then ?_ ?_ (by assumption)))))
  have hO2' := hid_mk hO2
  have Z2' := hid_mk Z2
  clear hO1 hb1 hb2 hO2 Z2
  go_wp2_with fail
  refine (paneMerge _ up7L keyA ⟨8, 18⟩ 4 _ hO2'.out.rd (by simp [up7L]) (by rw [up7_o]; exact List.Pairwise.nil)).mono ?_
  rintro e w3 ⟨v3, v4, rfl, hO3, hO4, hb3⟩
  rw [up7_o, up7_a] at hO3
  rw [up7_m, up7_a, up7_d] at hO4
  rw [up7_a]
  have hO2 := hid_mk (hO2'.out.below hb3)
  have hO3' := hid_mk hO3
  have hO4' := hid_mk hO4
  have Z2 := Z2'.out
  have Z3 : Below w.heap.size w w3 := by
    refine below_then ?_ ?_ hb3
    (iterate 24 (try (first | (with_reducible exact Below.size (by assumption)) | ((with_reducible show (_ : Nat) ≤ _); (try simp only [drewN_heap]); first | (with_reducible exact Below.size (by assumption)) | omega | (simp <;> omega)) | (with_reducible exact Below.refl _ _) | (with_reducible exact Below.size (Below.drew (by assumption))) | (with_reducible assumption) | (with_reducible refine Below.alloc ?_ ?_ _) | (with_reducible refine Below.drew ?_) | (with_reducible refine lib_below_drewN ?_ _) | (with_reducible refine Below.setCell ?_ ?_ _) | (with_reducible refine below_then ?_ ?_ (by assumption)))))
  have Z3' := hid_mk Z3
  clear hO2' Z2' Z2 Z3 hb3 hO3 hO4
  simp only [Span.val]
  go_wp2_with fail
  refine (paneFind _ up7L ⟨0, 10⟩ _ (hO2.out.rd.alloc _) (by simp [up7L]) (by simp [up7L, RisP, Span.cmp, cmpS, orI, cmpI])).mono ?_
  rintro e w4 ⟨rfl, hb4⟩
  rw [up7_h, up7_f]
  have hB4 := (Blk.new w3 #[.int .i64 0, .int .i64 25] 28).below hb4
  have hO5 := (Own.below (hO2.out.alloc (.cells #[.int .i64 0, .int .i64 25] 28)) hb4).rd
  have hO6 := (Own.below (hO3'.out.alloc (.cells #[.int .i64 0, .int .i64 25] 28)) hb4).rd
  have hO7 := (Own.below (hO4'.out.alloc (.cells #[.int .i64 0, .int .i64 25] 28)) hb4).rd
  have Z3 := Z3'.out
  have hz3 := Z3.size
  have Z4 : Below w.heap.size w w4 := by
    refine below_then ?_ ?_ hb4
    (iterate 24 (try (first | (with_reducible exact Below.size (by assumption)) | ((with_reducible show (_ : Nat) ≤ _); (try simp only [drewN_heap]); first | (with_reducible exact Below.size (by assumption)) | omega | (simp <;> omega)) | (with_reducible exact Below.refl _ _) | (with_reducible exact Below.size (Below.drew (by assumption))) | (with_reducible assumption) | (with_reducible refine Below.alloc ?_ ?_ _) | (with_reducible refine Below.drew ?_) | (with_reducible refine lib_below_drewN ?_ _) | (with_reducible refine Below.setCell ?_ ?_ _) | (with_reducible refine below_then ?_ ?_ (by assumption)))))
  obtain ⟨A2, c2, rfl, _⟩ := hO5.slice
  obtain ⟨A3, c3, rfl, _⟩ := hO6.slice
  obtain ⟨A4, c4, rfl, _⟩ := hO7.slice
  obtain ⟨b, off, rfl, hbk, d0, d1, d2, d3, d4, d5, d6⟩ := hO6.pane (j := 0) (by simp)
  simp only [Nat.zero_mul, Nat.add_zero] at d0 d1 d2 d3 d4 d5 d6
  obtain ⟨tc, tf⟩ := blk_facts hB4
  have heq := fun W => eqlS ⟨0, 25⟩ ⟨0, 25⟩ W
  simp only [Span.val] at heq
  have hbl := hB4.lt
  have Z4' := hid_mk Z4
  clear hO2 hO3' hO4' Z3' Z3 Z4 hb4 hO5 hO6 hO7
  simp only [Pane.val]
  simp at d0 d1 d2 d3 d4 d5 d6
  go_wp2_with fail
  go_ret
  refine ⟨rfl, ?_⟩
  have Z5 := Z4'.out
  (iterate 24 (try (first | (with_reducible exact Below.size (by assumption)) | ((with_reducible show (_ : Nat) ≤ _); (try simp only [drewN_heap]); first | (with_reducible exact Below.size (by assumption)) | omega | (simp <;> omega)) | (with_reducible exact Below.refl _ _) | (with_reducible exact Below.size (Below.drew (by assumption))) | (with_reducible assumption) | (with_reducible refine Below.alloc ?_ ?_ _) | (with_reducible refine Below.drew ?_) | (with_reducible refine lib_below_drewN ?_ _) | (with_reducible refine Below.setCell ?_ ?_ _) | (with_reducible refine below_then ?_ ?_ (by assumption)))))
end Go.Proofs.Ytkmjehodmfnihaa
