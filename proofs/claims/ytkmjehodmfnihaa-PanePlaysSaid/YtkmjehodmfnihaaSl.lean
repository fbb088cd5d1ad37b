/-
  Slices of elements of several cells: read (Rd), and of the call's own (Own).
-/
import Derived.Test.YtkmjehodmfnihaaBase
import Derived.Maps.AppendAt
import Derived.Deep.AppendLies
import Derived.OwnWalk
set_option linter.unusedSimpArgs false
set_option linter.unusedVariables false
namespace Go.Proofs.Ytkmjehodmfnihaa
open Go.RowKit

/-- how an element lies in memory: k cells -/
structure Enc (α : Type) where
  cells : α → List Value
  k : Nat
  kpos : 0 < k
  len : ∀ x, (cells x).length = k
  one : ∀ x, ∀ u ∈ cells x, u.oneCell' = true

section
variable {α : Type} (E : Enc α)
def Enc.flat (xs : List α) : List Value := xs.flatMap E.cells
theorem Enc.flat_nil : E.flat [] = [] := rfl
theorem Enc.flat_cons (x : α) (xs : List α) : E.flat (x :: xs) = E.cells x ++ E.flat xs := rfl
theorem Enc.flat_append (xs ys : List α) : E.flat (xs ++ ys) = E.flat xs ++ E.flat ys := by simp [Enc.flat]
theorem Enc.flat_one (x : α) : E.flat [x] = E.cells x := by simp [Enc.flat]
theorem Enc.flat_length (xs : List α) : (E.flat xs).length = xs.length * E.k := by
  induction xs with
  | nil => simp [Enc.flat]
  | cons x xs ih => rw [E.flat_cons, List.length_append, E.len, ih, List.length_cons, Nat.succ_mul]; omega
theorem Enc.flat_at (xs : List α) : ∀ (j i : Nat) (x : α), xs[j]? = some x → i < E.k → (E.flat xs)[j * E.k + i]? = (E.cells x)[i]? := by
  induction xs with
  | nil => intro j i x h; simp at h
  | cons y xs ih =>
    intro j i x h hi
    rw [E.flat_cons]
    cases j with
    | zero =>
      simp at h
      subst h
      rw [Nat.zero_mul, Nat.zero_add, List.getElem?_append_left (by rw [E.len]; exact hi)]
    | succ j =>
      simp at h
      rw [List.getElem?_append_right (by rw [E.len, Nat.succ_mul]; omega), E.len, show (j + 1) * E.k + i - E.k = j * E.k + i from by rw [Nat.succ_mul]; omega]
      exact ih j i x h hi
theorem Enc.flat_one' (xs : List α) : ∀ u ∈ E.flat xs, u.oneCell' = true := by
  intro u hu
  obtain ⟨x, _, hx⟩ := List.mem_flatMap.1 hu
  exact E.one x u hx

/-- a slice that reads as a list -/
structure Rd (w : World) (v : Value) (xs : List α) : Prop where mk ::
  out : ∃ A c, v = .slice A xs.length c ∧ xs.length ≤ c ∧ xs.length ≤ maxLen ∧ (0 < xs.length → ∃ b off, A = some ⟨b, off, none⟩ ∧ b < w.heap.size ∧ ∀ j u, (E.flat xs)[j]? = some u → w.cell? ⟨b, off + j, none⟩ = some u)
end
section
variable {α : Type} {E : Enc α} {w w' : World} {v : Value} {xs ys : List α}
theorem Rd.nil (w : World) : Rd E w (.slice none 0 0) [] := ⟨⟨none, 0, rfl, Nat.le_refl _, Nat.zero_le _, fun h => absurd h (by simp)⟩⟩
theorem Rd.keep (h : Rd E w v xs) (hz : w.heap.size ≤ w'.heap.size) (hk : ∀ b, v.ownBlock = some b → b < w.heap.size → w'.heap[b]? = w.heap[b]?) : Rd E w' v xs := by
  obtain ⟨A, c, rfl, h1, h2, h3⟩ := h.out
  refine ⟨⟨A, c, rfl, h1, h2, fun hn => ?_⟩⟩
  obtain ⟨b, off, rfl, hb, hc⟩ := h3 hn
  refine ⟨b, off, rfl, by omega, fun j u hu => ?_⟩
  rw [World.cell?_of_block (w := w) (a := ⟨b, off + j, none⟩) (hk b rfl hb)]
  exact hc j u hu
theorem Rd.below (h : Rd E w v xs) (hb : Below w.heap.size w w') : Rd E w' v xs := h.keep hb.size fun b _ hlt => hb.block b hlt
theorem Rd.alloc (h : Rd E w v xs) (o : Obj) : Rd E (w.alloc o) v xs := h.keep (by simp) fun b _ hlt => Below.heap_alloc w o b hlt
theorem Rd.drewN (h : Rd E w v xs) (n : Nat) : Rd E (w.drewN n) v xs := ⟨h.out⟩
theorem Rd.drew (h : Rd E w v xs) : Rd E w.drew v xs := ⟨h.out⟩
theorem Rd.setOther (h : Rd E w v xs) {a : Addr} {u : Value} (hne : v.ownBlock ≠ some a.block) : Rd E (w.setCell a u) v xs :=
  h.keep (by simp [World.setCell]) fun b hb _ => Below.heap_setCell w a u b (by rintro rfl; exact hne hb)
theorem Rd.slice (h : Rd E w v xs) : ∃ A c, v = .slice A xs.length c ∧ xs.length ≤ c := by
  obtain ⟨A, c, h1, h2, _⟩ := h.out
  exact ⟨A, c, h1, h2⟩
/-- the cells of element j -/
theorem Rd.elem {A : Option Addr} {n c : Nat} (h : Rd E w (.slice A n c) xs) {j : Nat} (hj : j < xs.length) : ∃ b off, A = some ⟨b, off, none⟩ ∧ b < w.heap.size ∧ ∀ i u, (E.cells xs[j])[i]? = some u → w.cell? ⟨b, off + (j * E.k + i), none⟩ = some u := by
  obtain ⟨A', c', hv, _, _, h3⟩ := h.out
  injection hv with h4 h5 h6
  subst h4
  obtain ⟨b, off, hA, hb, hc⟩ := h3 (by omega)
  refine ⟨b, off, hA, hb, fun i u hu => hc _ u ?_⟩
  have hi : i < E.k := by
    have := (List.getElem?_eq_some_iff.1 hu).1
    rw [E.len] at this; exact this
  rw [E.flat_at xs j i xs[j] (List.getElem?_eq_getElem hj) hi]
  exact hu
/-- a slice of the call's own, from block 'base' on -/
def Own (E : Enc α) (T : TypeId) (w : World) (base : Nat) (v : Value) (xs : List α) : Prop := w.ownsRow base T E.k v xs.length (E.flat xs)
theorem Own.rd {T : TypeId} {base : Nat} (h : Own E T w base v xs) : Rd E w v xs := by
  have h0 := h
  rcases h.2 with ⟨rfl, hn⟩ | ⟨g, cap, cur, rfl, hb, hh, h1, h2, h3, h4⟩
  · refine ⟨⟨none, 0, by rw [hn], by omega, by simp [maxLen]; omega, fun h => absurd h (by omega)⟩⟩
  · exact ⟨⟨_, cap, rfl, h1, by omega, fun _ => ⟨g, 0, rfl, blk_lt hh, fun j u hu => by
      have := World.ownsRow.cells h0 (g := g) rfl j u hu
      rw [show (⟨g, 0, none⟩ : Addr).add j = ⟨g, 0 + j, none⟩ from by unfold Addr.add; split <;> simp_all] at this
      exact this⟩⟩⟩
theorem Own.nil (T : TypeId) (w : World) (base : Nat) : Own E T w base (.slice none 0 0) [] := ⟨by simp [Enc.flat], .inl ⟨rfl, rfl⟩⟩
theorem Own.empty (T : TypeId) (w : World) : Own E T (w.alloc (.cells #[] T)) w.heap.size (.slice (some ⟨w.heap.size, 0, none⟩) 0 0) ([] : List α) :=
  ⟨by simp [Enc.flat], .inr ⟨w.heap.size, 0, #[], rfl, Nat.le_refl _, (Blk.new w #[] T).out, Nat.le_refl _, by simp [maxLen], by simp, by simp [Enc.flat]⟩⟩
theorem Below.of_grown {w w' : World} {v : Value} {B : Nat} (hg : w.grownBy w' v.ownBlock) (hB : B ≤ w.heap.size) (h : ∀ b, v.ownBlock = some b → B ≤ b) {w0 : World} (h0 : Below B w0 w) : Below B w0 w' := h0.grown hg hB h
theorem Own.base {T : TypeId} {base : Nat} (h : Own E T w base v xs) (b : Nat) (hb : v.ownBlock = some b) : base ≤ b := by
  rcases h.2 with ⟨rfl, hn⟩ | ⟨g, cap, cur, rfl, hg, _⟩
  · simp [Value.ownBlock] at hb
  · have : g = b := by simpa [Value.ownBlock] using hb
    omega
theorem Own.lt {T : TypeId} {base : Nat} (h : Own E T w base v xs) (b : Nat) (hb : v.ownBlock = some b) : b < w.heap.size := by
  rcases h.2 with ⟨rfl, hn⟩ | ⟨g, cap, cur, rfl, hg, hh, _⟩
  · simp [Value.ownBlock] at hb
  · have : g = b := by simpa [Value.ownBlock] using hb
    subst this
    exact blk_lt hh
theorem Own.keep {T : TypeId} {base : Nat} (h : Own E T w base v xs) (hk : ∀ b, v.ownBlock = some b → w'.heap[b]? = w.heap[b]?) : Own E T w' base v xs := by
  refine ⟨h.1, ?_⟩
  rcases h.2 with hn | ⟨g, cap, cur, rfl, hb, hh, h1, h2, h3, h4⟩
  · exact .inl hn
  · exact .inr ⟨g, cap, cur, rfl, hb, (hk g rfl).trans hh, h1, h2, h3, h4⟩
theorem Own.below {T : TypeId} {base : Nat} (h : Own E T w base v xs) (hb : Below w.heap.size w w') : Own E T w' base v xs := h.keep fun b hv => hb.block b (h.lt b hv)
theorem Own.alloc {T : TypeId} {base : Nat} (h : Own E T w base v xs) (o : Obj) : Own E T (w.alloc o) base v xs := h.keep fun b hv => Below.heap_alloc w o b (h.lt b hv)
theorem Own.drewN {T : TypeId} {base : Nat} (h : Own E T w base v xs) (n : Nat) : Own E T (w.drewN n) base v xs := h
theorem Own.drew {T : TypeId} {base : Nat} (h : Own E T w base v xs) : Own E T w.drew base v xs := h
theorem Own.lower {T : TypeId} {base base' : Nat} (h : Own E T w base v xs) (hle : base' ≤ base) : Own E T w base' v xs := by
  refine ⟨h.1, ?_⟩
  rcases h.2 with hn | ⟨g, cap, cur, rfl, hb, r⟩
  · exact .inl hn
  · exact .inr ⟨g, cap, cur, rfl, by omega, r⟩

/-- what the table says of an element's type -/
structure Info (P : Program) (E : Enc α) (T : TypeId) where mk ::
  i : TypeInfo
  z : Value
  bytes : Nat
  hi : P.info? T = some i
  hz : i.zero = some z
  hsize : i.size = E.k
  hby : i.bytes = bytes
  hzs : z.cells.size = E.k
  hb : bytes ≤ 1000

/-- append(s, x...): onto a row of the call's own, whatever is read -/
theorem wpList_append {P : Program} {ops : Array Oper} {rest : List Oper} {o : Oper} {a : Act} {Q : Exit → Act → World → Prop} {T t : TypeId} (I : Info P E T) (ht : P.underlying t = some (.slice T)) (hgd : o.guard = none) (s x : Operand)
    (ho : o.op = .call { callee := .builtin .append, args := #[s, x], argTypes := #[t, t] }) (base : Nat) (xv : Value) (hown : Own E T w base v xs) (hs : a.eval s = v) (hr : Rd E w xv ys) (hx : a.eval x = xv)
    (hlen : xs.length + ys.length ≤ 1000000) (hbase : base ≤ w.heap.size)
    (h : ∀ v' w', Own E T w' base v' (xs ++ ys) → w.grownBy w' v.ownBlock → (v'.ownBlock = v.ownBlock ∨ v'.ownBlock = some w.heap.size) → wpList P ops Q rest (a.put o.dst v') w') : wpList P ops Q (o :: rest) a w := by
  refine wpList_plain hgd fun _ hK => ?_
  obtain ⟨A, c, rfl, h1, h2, h3⟩ := hr.out
  have run : ∃ v' w', (Builtin.append_ #[t, t] o.type #[v, .slice A ys.length c]).run P w = .ok v' w' ∧ Own E T w' base v' (xs ++ ys) ∧ w.grownBy w' v.ownBlock ∧ (v'.ownBlock = v.ownBlock ∨ v'.ownBlock = some w.heap.size) := by
    have hb := I.hb
    have hbig : (xs.length + ys.length) * I.bytes ≤ 140737488355328 := Nat.le_trans (Nat.mul_le_mul hlen hb) (by decide)
    have hml : xs.length + ys.length ≤ maxLen := by unfold maxLen; omega
    rcases A with _ | ad
    · have hy : ys = [] := by
        cases ys with
        | nil => rfl
        | cons y ys => obtain ⟨b, off, hA, _⟩ := h3 (by simp); cases hA
      subst hy
      refine ⟨v, w, ?_, by simpa using hown, World.grownBy.refl w _, .inl rfl⟩
      rcases hown.2 with ⟨rfl, hn⟩ | ⟨g, cap, cur, rfl, _, _, hnc, _⟩
      · simp [Builtin.append_, run_underlying ht, sizeOf, typeInfo, I.hi, Builtin.lenOf, Builtin.firstCells]
      · simp [Builtin.append_, run_underlying ht, sizeOf, typeInfo, I.hi, Builtin.lenOf, Builtin.firstCells, hnc, storeCells]
    · have hc : ∀ j u, (E.flat ys)[j]? = some u → w.cell? (ad.add j) = some u := by
        intro j u hu
        have hn : 0 < ys.length := by
          cases ys with
          | nil => simp [Enc.flat] at hu
          | cons y ys => simp
        obtain ⟨b, off, hA, _, hc⟩ := h3 hn
        injection hA with hA
        subst hA
        have := hc j u hu
        rwa [show (⟨b, off, none⟩ : Addr).add j = ⟨b, off + j, none⟩ from by unfold Addr.add; split <;> simp_all]
      obtain ⟨v', w', hrun, h4, h5, _, h6⟩ := run_append_own_at (P := P) w base t o.type T I.i I.z E.k I.bytes ht I.hi I.hz I.hsize I.hby I.hzs E.kpos v xs.length (E.flat xs) hown ad ys.length c (E.flat ys) (E.flat_length ys) hc (E.flat_one' ys) hml hbig hbase
      refine ⟨v', w', hrun, ?_, h5, h6⟩
      unfold Own
      rw [List.length_append, E.flat_append]
      exact h4
  obtain ⟨v', w', hrun, h4, h5, h6⟩ := run
  unfold Oper.wp execOp
  simp only [ho, resolve, invoke, builtin, Sem.run_bind, Sem.run_pure, Result.andThen_ok, List.map_toArray, List.map_cons, List.map_nil, hs, hx, hrun]
  exact hK _ _ (h v' w' h4 h5 h6)
end
end Go.Proofs.Ytkmjehodmfnihaa
