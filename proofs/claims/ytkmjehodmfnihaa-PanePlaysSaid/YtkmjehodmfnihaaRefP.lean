/-
  The references on panes: Same, Of.
-/
import Derived.Test.YtkmjehodmfnihaaRef
set_option linter.unusedSimpArgs false
set_option linter.unusedVariables false
namespace Go.Proofs.Ytkmjehodmfnihaa
open Go.RowKit

set_option maxRecDepth 100000 in
set_option maxHeartbeats 400000 in
theorem refSame (v1 v2 : Value) (xs ys : List Pane) (w : World) (h1 : Rd encP w v1 xs) (h2 : Rd encP w v2 ys) (hlen : xs.length ≤ 1000000) (hlen2 : ys.length ≤ 1000000) :
    Calls Try.prog 8 #[v1, v2] w fun e w' => e = .returned (.bool (decide (xs = ys))) ∧ Below w.heap.size w w' := by
  obtain ⟨A, c, rfl, _⟩ := h1.slice
  obtain ⟨A', c', rfl, _⟩ := h2.slice
  have h0 : ∀ z, z = decide (xs = ys) → Ending.returned (.bool z) = .returned (.bool (decide (xs = ys))) := fun b h => by rw [h]
  by_cases hl : xs.length = ys.length
  · go_enter Try.func8, Try.ntmps8
    go_wp2
    go_loopw [5] (fun i wr => ∃ k : Nat, k ≤ ys.length ∧ i = .int .i64 k ∧ Hid (xs.take k = ys.take k) ∧ ∃ n, wr = w.drewN n) (fun i _ => ys.length - (intOf i).toNat)
    case atStart => exact ⟨0, Nat.zero_le _, rfl, hid_mk rfl, 0, rfl⟩
    case round =>
      obtain ⟨k, hk, rfl, ht, m, rfl⟩ := hrel
      by_cases hlt : k < ys.length
      · obtain ⟨b, off, rfl, hb, c0, c1, c2, c3, c4, c5, c6⟩ := h1.pane (j := k) (by omega)
        obtain ⟨b', off', rfl, hb', d0, d1, d2, d3, d4, d5, d6⟩ := h2.pane (j := k) hlt
        have hg := eqgP
        have hxk : k < xs.length := by omega
        by_cases he : xs[k] = ys[k]
        · have hq : ∀ w, (binOp .neq 32 xs[k].val ys[k].val).run Try.prog w = .ok (.bool false) w := fun w => by rw [neqP]; simp [he]
          have ht' : Hid (xs.take (k + 1) = ys.take (k + 1)) := hid_mk (by rw [List.take_succ_eq_append_getElem hxk, List.take_succ_eq_append_getElem hlt, ht.out, he])
          simp only [Pane.val] at hq
          clear he ht
          go_wp2
          go_quiet (fail)
          go_wp2
          exact ⟨⟨k + 1, by omega, by go_num, ht', m + nq, by first | rfl | rw [World.drewN_drewN]⟩, by simp [intOf]; omega⟩
        · have hq : ∀ w, (binOp .neq 32 xs[k].val ys[k].val).run Try.prog w = .ok (.bool true) w := fun w => by rw [neqP]; simp [he]
          have hr : false = decide (xs = ys) := by
            symm; simp only [decide_eq_false_iff_not]; rintro rfl; exact he rfl
          have H := hid_mk hr
          simp only [Pane.val] at hq
          clear he ht hr
          go_wp2
          go_quiet (fail)
          go_wp2
          go_ret
          refine ⟨h0 _ H, ?_⟩
          (iterate 24 (try (first | (with_reducible exact Below.size (by assumption)) | ((with_reducible show (_ : Nat) ≤ _); (try simp only [drewN_heap]); first | (with_reducible exact Below.size (by assumption)) | omega | (simp <;> omega)) | (with_reducible exact Below.refl _ _) | (with_reducible exact Below.size (Below.drew (by assumption))) | (with_reducible assumption) | (with_reducible refine Below.alloc ?_ ?_ _) | (with_reducible refine Below.drew ?_) | (with_reducible refine lib_below_drewN ?_ _) | (with_reducible refine Below.setCell ?_ ?_ _) | (with_reducible refine below_then ?_ ?_ (by assumption)))))
      · have hr : true = decide (xs = ys) := by
          symm; simp only [decide_eq_true_eq]
          have h3 := ht.out
          rw [List.take_of_length_le (by omega), List.take_of_length_le (by omega)] at h3
          exact h3
        have H := hid_mk hr
        have hlt2 : ¬ k < xs.length := by omega
        clear hr hl ht
        go_wp2
        go_ret
        exact ⟨h0 _ H, lib_below_drewN (Below.refl _ _) _⟩
  · have hd : ((xs.length : Int) != (ys.length : Int)) = true := by simp; omega
    have hr : false = decide (xs = ys) := by
      symm; simp only [decide_eq_false_iff_not]; rintro rfl; exact hl rfl
    have H := hid_mk hr
    clear hl hr
    go_enter Try.func8, Try.ntmps8
    go_wp2
    go_ret
    exact ⟨h0 _ H, Below.refl _ _⟩

def ofKey (xs : List Pane) (key : ByteArray) : List Pane := xs.filter fun p => decide (p.key = key)
set_option maxRecDepth 100000 in
set_option maxHeartbeats 400000 in
theorem refOf (v : Value) (xs : List Pane) (key : ByteArray) (w : World) (hR : Rd encP w v xs) (hlen : xs.length ≤ 1000000) :
    Calls Try.prog 11 #[v, .string key] w fun e w' => ∃ v', e = .returned v' ∧ Own encP 32 w' w.heap.size v' (ofKey xs key) ∧ Below w.heap.size w w' := by
  obtain ⟨A, c, rfl, _⟩ := hR.slice
  obtain ⟨I⟩ := infoP
  have hR' := hid_mk hR
  clear hR
  go_enter Try.func11, Try.ntmps11
  go_wp2
  go_loopw [5, 6] (fun o i wr => ∃ k : Nat, k ≤ xs.length ∧ i = .int .i64 k ∧ Hid (Own encP 32 wr w.heap.size o (ofKey (xs.take k) key)) ∧ Hid (Below w.heap.size w wr)) (fun _ i _ => xs.length - (intOf i).toNat)
  case atStart => exact ⟨0, Nat.zero_le _, rfl, hid_mk (Own.nil _ _ _), hid_mk (Below.refl _ _)⟩
  case round =>
    obtain ⟨k, hk, rfl, ho, hb⟩ := hrel
    have hRr := hid_mk (hR'.out.below hb.out)
    have hz := hb.out.size
    by_cases hlt : k < xs.length
    · obtain ⟨b, off, rfl, hbk, c0, c1, c2, c3, c4, c5, c6⟩ := hRr.out.pane (j := k) hlt
      have hg : List.take (k + 1) xs = List.take k xs ++ [xs[k]] := List.take_succ_eq_append_getElem hlt
      by_cases he : xs[k].key = key
      · have hk2 : Hid (ofKey (xs.take (k + 1)) key = ofKey (xs.take k) key ++ [xs[k]]) := hid_mk (by unfold ofKey; rw [hg, List.filter_append]; simp [he])
        have hle : (ofKey (xs.take k) key).length ≤ k := by
          have := List.length_filter_le (fun p : Pane => decide (p.key = key)) (xs.take k)
          unfold ofKey
          simp at this ⊢; omega
        have hkt : (xs[k].key.toList == key.toList) = true := by rw [bytes_eq]; simp [he]
        clear hg he
        have hbl := Blk.new wr xs[k].cells.toArray 32
        go_wp2_with (at_builtin; refine wpList_append I undP rfl _ _ rfl w.heap.size _ (ho.out.alloc _) rfl (Rd.lit hbl) rfl (by simp; omega) (by simp; omega) ?_; (intro v' w1 hown hg1 hat))
        refine ⟨⟨k + 1, by omega, by go_num, ?_, ?_⟩, by simp [intOf]; omega⟩
        · exact hid_mk (by rw [hk2.out]; exact hown)
        · exact hid_mk ((hb.out.alloc hz _).grown hg1 (by simp; omega) ho.out.base)
      · have hk2 : Hid (ofKey (xs.take (k + 1)) key = ofKey (xs.take k) key) := hid_mk (by unfold ofKey; rw [hg, List.filter_append]; simp [he])
        have hkt : (xs[k].key.toList == key.toList) = false := by rw [bytes_eq]; simp [he]
        clear hg he
        go_wp2
        exact ⟨⟨k + 1, by omega, by go_num, hid_mk (by rw [hk2.out]; exact ho.out), hb⟩, by simp [intOf]; omega⟩
    · have ht : Hid (ofKey (xs.take k) key = ofKey xs key) := hid_mk (by rw [List.take_of_length_le (by omega)])
      go_wp2
      go_ret
      refine ⟨_, rfl, ?_, hb.out⟩
      rw [← ht.out]; exact ho.out
end Go.Proofs.Ytkmjehodmfnihaa
