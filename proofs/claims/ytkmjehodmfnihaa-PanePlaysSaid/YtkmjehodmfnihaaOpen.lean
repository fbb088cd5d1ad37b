/-
  Arguments that are slices of structs, opened to lists.
-/
import Derived.Test.YtkmjehodmfnihaaPanes
import Derived.ProofKit
import Derived.Deep.Slices
set_option linter.unusedSimpArgs false
set_option linter.unusedVariables false
namespace Go.Proofs.Ytkmjehodmfnihaa
open Go.RowKit Go.ChangeShapes Go.WideShapes Go.Deep

theorem exists_list {α : Type} {P : Nat → α → Prop} : ∀ (n : Nat), (∀ i, i < n → ∃ x, P i x) → ∃ xs : List α, xs.length = n ∧ ∀ i x, xs[i]? = some x → P i x
  | 0, _ => ⟨[], rfl, fun i x h => by simp at h⟩
  | n + 1, h => by
    obtain ⟨xs, hl, hx⟩ := exists_list n fun i hi => h i (by omega)
    obtain ⟨y, hy⟩ := h n (by omega)
    refine ⟨xs ++ [y], by simp [hl], fun i x hi => ?_⟩
    rcases Nat.lt_or_ge i xs.length with h1 | h1
    · rw [List.getElem?_append_left h1] at hi; exact hx i x hi
    · rw [List.getElem?_append_right h1] at hi
      have : i - xs.length = 0 := by
        rcases Nat.eq_zero_or_pos (i - xs.length) with h2 | h2
        · exact h2
        · rw [List.getElem?_eq_none (by simp; omega)] at hi; cases hi
      rw [this] at hi
      have e : i = n := by omega
      subst e
      simp at hi; subst hi; exact hy
section
variable {α : Type} {E : Enc α} {w : World}
theorem Rd.of_cells {a : Addr} {len cap base : Nat} {xs : List α} (hl : xs.length = len) (h1 : len ≤ cap) (h2 : cap ≤ maxLen) (h : ∀ i x, xs[i]? = some x → w.cells? base (a.add (i * E.k)) E.k = some (E.cells x)) : Rd E w (.slice (some a) len cap) xs := by
  subst hl
  refine ⟨⟨some a, cap, rfl, h1, by omega, fun hn => ?_⟩⟩
  have hk := E.kpos
  have hc : ∀ i x j, xs[i]? = some x → j < E.k → w.cell? (a.add (i * E.k + j)) = (E.cells x)[j]? := by
    intro i x j hi hj
    have := (World.cells?_some (h i x hi)).2.2 j hj
    rwa [Go.Deep.add_add] at this
  have hs : a.spot = none ∧ a.block < w.heap.size := by
    have h3 := hc 0 xs[0] 0 (by simp) hk
    rw [Nat.zero_mul, Nat.add_zero] at h3
    have e0 : a.add 0 = a := by unfold Addr.add; simp
    rw [e0, List.getElem?_eq_getElem (by rw [E.len]; exact hk)] at h3
    refine ⟨?_, World.block_lt_of_cell? w a h3⟩
    unfold World.cell? at h3
    split at h3
    · split at h3
      · cases h3
      · rename_i hns; simpa using hns
    · cases h3
  obtain ⟨b, off, sp⟩ := a
  simp only at hs
  obtain ⟨rfl, hb⟩ := hs
  refine ⟨b, off, rfl, hb, fun j u hu => ?_⟩
  have e9 : (⟨b, off, none⟩ : Addr).add j = ⟨b, off + j, none⟩ := by
    clear hc h hu
    unfold Addr.add; split <;> simp_all
  have hj : j < xs.length * E.k := by
    have := (List.getElem?_eq_some_iff.1 hu).1
    rwa [E.flat_length] at this
  have hi : j / E.k < xs.length := Nat.div_lt_of_lt_mul (by rw [Nat.mul_comm]; exact hj)
  have hjm := Nat.mod_lt j hk
  have e : j = j / E.k * E.k + j % E.k := by rw [Nat.mul_comm]; exact (Nat.div_add_mod j E.k).symm
  have h4 := hc (j / E.k) xs[j / E.k] (j % E.k) (List.getElem?_eq_getElem hi) hjm
  rw [← e] at h4
  have h5 := E.flat_at xs (j / E.k) (j % E.k) xs[j / E.k] (List.getElem?_eq_getElem hi) hjm
  rw [← e] at h5
  rw [e9] at h4
  rw [h4, ← h5]; exact hu
end
section
variable {H : Type} {enc : TypeId × Value → H} {P : Program} {w : World} {base : Nat} {spare : Nat → Bool} {held : Bool}
/-- a slice of such as read as E's -/
theorem open_list {α : Type} (E : Enc α) (F : α → Prop) {t e : TypeId} {v : Value} {d : DataW H} {ps : List MemPlace} {r : Reach} {b0 : Nat} (ht : P.underlying t = some (.slice e)) (hC : P.cellsOf e = E.k)
    (hone : ∀ (n : Nat) (cs : List Value) (y : DataW H × List MemPlace), DataW.trod enc P w base spare held n e cs = some y → ∃ x, cs = E.cells x ∧ F x)
    (hval : Value.okWide P w r b0 t v) (h : DataW.Trod enc P w base spare held t v d ps) : ∃ xs : List α, Rd E w v xs ∧ ∀ x ∈ xs, F x := by
  obtain ⟨A, n0, c0, rfl⟩ := okWide_slice ht hval
  obtain ⟨fuel, hf⟩ := h
  rcases open_slice ht hf with ⟨h0, _⟩ | ⟨a, len, cap, m, n, D, Pl, hcs, hb, hl, hm, hmm, hx, hi⟩
  · simp only [Value.cells, List.cons.injEq, Value.slice.injEq, and_true] at h0
    obtain ⟨rfl, rfl, rfl⟩ := h0
    exact ⟨[], Rd.nil _, fun x hx => by cases hx⟩
  · simp only [Value.cells, List.cons.injEq, Value.slice.injEq, and_true] at hcs
    obtain ⟨rfl, rfl, rfl⟩ := hcs
    obtain ⟨xs, hxl, hxs⟩ := exists_list (P := fun i (x : α) => w.cells? base (a.add (i * E.k)) E.k = some (E.cells x) ∧ F x) n0 fun i hi' => by
      obtain ⟨cs', hc, ht'⟩ := hi i (by rw [hmm]; split <;> omega)
      obtain ⟨x, rfl, hF⟩ := hone _ _ _ ht'
      rw [hC] at hc
      exact ⟨x, hc, hF⟩
    refine ⟨xs, Rd.of_cells hxl hl hm (fun i x hx => (hxs i x hx).1), fun x hx => ?_⟩
    obtain ⟨i, hi', rfl⟩ := List.getElem_of_mem hx
    exact (hxs i _ (List.getElem?_eq_getElem hi')).2
theorem wf_fit {n : Int} (h : (Lit.int .i64 n).wf = true) : fit n = true := by
  rw [fit_iff]
  simp only [Lit.wf, decide_eq_true_eq, Bool.and_eq_true] at h
  have h1 : IntKind.i64.min = -9223372036854775808 := by decide
  have h2 : IntKind.i64.max = 9223372036854775807 := by decide
  rw [h1, h2] at h
  omega
end
end Go.Proofs.Ytkmjehodmfnihaa
