/-
  copy, into a row of the call's own; stores into it.
-/
import Derived.Test.YtkmjehodmfnihaaSl
import Derived.Laws.CopyRow
import Derived.Lib.AppendZerosOnto
import Derived.Lib.Overlaps
set_option linter.unusedSimpArgs false
set_option linter.unusedVariables false
namespace Go.Proofs.Ytkmjehodmfnihaa
open Go.RowKit
section
variable {α : Type} {E : Enc α} {w w' : World} {v : Value} {xs ys : List α}

theorem Enc.flat_take (E : Enc α) (xs : List α) (n : Nat) : E.flat (xs.take n) = (E.flat xs).take (n * E.k) := by
  induction xs generalizing n with
  | nil => simp [Enc.flat]
  | cons x xs ih =>
    cases n with
    | zero => simp [Enc.flat]
    | succ n =>
      rw [List.take_succ_cons, E.flat_cons, E.flat_cons, ih, List.take_append, E.len, List.take_of_length_le (l := E.cells x) (by rw [E.len, Nat.succ_mul]; omega)]
      congr 2
      rw [Nat.succ_mul]; omega
theorem Enc.flat_drop (E : Enc α) (xs : List α) (n : Nat) : E.flat (xs.drop n) = (E.flat xs).drop (n * E.k) := by
  induction xs generalizing n with
  | nil => simp [Enc.flat]
  | cons x xs ih =>
    cases n with
    | zero => simp [Enc.flat]
    | succ n =>
      rw [List.drop_succ_cons, E.flat_cons, ih, List.drop_append, E.len, List.drop_of_length_le (show (E.cells x).length ≤ (n + 1) * E.k by rw [E.len, Nat.succ_mul]; omega), List.nil_append]
      congr 1
      rw [Nat.succ_mul]; omega

/-- at address A the cells of these elements lie -/
structure RdAt (E : Enc α) (w : World) (A : Option Addr) (zs : List α) : Prop where mk ::
  out : 0 < zs.length → ∃ b off, A = some ⟨b, off, none⟩ ∧ b < w.heap.size ∧ ∀ j u, (E.flat zs)[j]? = some u → w.cell? ⟨b, off + j, none⟩ = some u
theorem Rd.at_ {A : Option Addr} {n c : Nat} (h : Rd E w (.slice A n c) xs) : RdAt E w A xs := by
  obtain ⟨A', c', hv, _, _, h3⟩ := h.out
  injection hv with h4 h5 h6
  subst h4
  exact ⟨h3⟩
theorem RdAt.drewN {A : Option Addr} (h : RdAt E w A xs) (n : Nat) : RdAt E (w.drewN n) A xs := ⟨h.out⟩
theorem RdAt.keep {b off : Nat} (h : RdAt E w (some ⟨b, off, none⟩) xs) (hz : w.heap.size ≤ w'.heap.size) (hk : w'.heap[b]? = w.heap[b]?) : RdAt E w' (some ⟨b, off, none⟩) xs := by
  refine ⟨fun hn => ?_⟩
  obtain ⟨b', off', hA, hb, hc⟩ := h.out hn
  simp only [Option.some.injEq, Addr.mk.injEq, and_true] at hA
  obtain ⟨rfl, rfl⟩ := hA
  refine ⟨b, off, rfl, by omega, fun j u hu => ?_⟩
  rw [World.cell?_of_block (w := w) (a := ⟨b, off + j, none⟩) hk]
  exact hc j u hu
theorem RdAt.cut {b off : Nat} (h : RdAt E w (some ⟨b, off, none⟩) xs) (p m : Nat) : RdAt E w (some ⟨b, off + p * E.k, none⟩) ((xs.drop p).take m) := by
  refine ⟨fun hn => ?_⟩
  have hx : 0 < xs.length := by simp at hn; omega
  obtain ⟨b', off', hA, hb, hc⟩ := h.out hx
  simp only [Option.some.injEq, Addr.mk.injEq, and_true] at hA
  obtain ⟨rfl, rfl⟩ := hA
  refine ⟨b, off + p * E.k, rfl, hb, fun j u hu => ?_⟩
  rw [E.flat_take, List.getElem?_take] at hu
  split at hu
  · rw [E.flat_drop, List.getElem?_drop] at hu
    have := hc _ u hu
    rwa [← Nat.add_assoc] at this
  · cases hu
theorem run_copyK {P : Program} {T t : TypeId} (I : Info P E T) (ht : P.underlying t = some (.slice T)) (ty : TypeId) (g o dLen dCap : Nat) (cur : Array Value) (T' : TypeId) (hg : w.heap[g]? = some (.cells cur T' (0, 0))) (A : Option Addr) (sLen sCap : Nat) (zs : List α)
    (hz : zs.length = min sLen dLen) (hr : RdAt E w A zs) (hA : A ≠ none ∨ zs = []) (hfit : o + zs.length * E.k ≤ cur.size) :
    (Builtin.copy_ #[t, t] ty #[.slice (some ⟨g, o, none⟩) dLen dCap, .slice A sLen sCap]).run P w =
      .ok (goInt (zs.length : Int)) (w.setRow g (cur.toList.take o ++ E.flat zs ++ cur.toList.drop (o + zs.length * E.k)).toArray) := by
  have hmin : Nat.min sLen dLen = zs.length := hz.symm
  rcases A with _ | ad
  · have hy : zs = [] := by simpa using hA
    subst hy
    have he : (cur.toList.take o ++ E.flat ([] : List α) ++ cur.toList.drop (o + ([] : List α).length * E.k)).toArray = cur := by simp [Enc.flat]
    rw [he, setRow_self w g cur T' (0, 0) hg]
    simp [Builtin.copy_, run_underlying ht, Builtin.lenOf, Builtin.firstCells, sizeOf, typeInfo, I.hi, storeCells, hmin]
  · have hl : (loadCells ad (zs.length * E.k)).run P w = .ok (E.flat zs).toArray w := by
      have h := run_loadCells_list (P := P) w ad (E.flat zs) (fun j u hu => by
        have hn : 0 < zs.length := by
          cases zs with
          | nil => simp [Enc.flat] at hu
          | cons y ys => simp
        obtain ⟨b, off, hA, _, hc⟩ := hr.out hn
        injection hA with hA
        subst hA
        have := hc j u hu
        rwa [show (⟨b, off, none⟩ : Addr).add j = ⟨b, off + j, none⟩ from by unfold Addr.add; split <;> simp_all])
      rwa [E.flat_length] at h
    have hst := run_storeCells_at P g o T' (E.flat zs) 0 cur w hg (by rw [E.flat_length]; simpa using hfit) (E.flat_one' _)
    rw [E.flat_length] at hst
    simp only [Nat.add_zero] at hst
    simp [Builtin.copy_, run_underlying ht, Builtin.lenOf, Builtin.firstCells, sizeOf, typeInfo, I.hi, I.hsize, hmin, hl, hst]
theorem wpList_copyK {P : Program} {ops : Array Oper} {rest : List Oper} {o : Oper} {a : Act} {Q : Exit → Act → World → Prop} {T t : TypeId} (I : Info P E T) (ht : P.underlying t = some (.slice T)) (hgd : o.guard = none) (d s : Operand)
    (ho : o.op = .call { callee := .builtin .copy, args := #[d, s], argTypes := #[t, t] }) (g oo : Nat) (cur : Array Value) (T' : TypeId) (hg : w.heap[g]? = some (.cells cur T' (0, 0))) (dLen dCap : Nat) (hd : a.eval d = .slice (some ⟨g, oo, none⟩) dLen dCap)
    (A : Option Addr) (sLen sCap : Nat) (hs : a.eval s = .slice A sLen sCap) (zs : List α) (hz : zs.length = min sLen dLen) (hr : RdAt E w A zs) (hA : A ≠ none ∨ zs = []) (hfit : oo + zs.length * E.k ≤ cur.size)
    (h : wpList P ops Q rest (a.put o.dst (goInt (zs.length : Int))) (w.setRow g (cur.toList.take oo ++ E.flat zs ++ cur.toList.drop (oo + zs.length * E.k)).toArray)) : wpList P ops Q (o :: rest) a w := by
  refine wpList_plain hgd fun _ hK => ?_
  have hrun := run_copyK (P := P) I ht o.type g oo dLen dCap cur T' hg A sLen sCap zs hz hr hA hfit
  unfold Oper.wp execOp
  simp only [ho, resolve, invoke, builtin, Sem.run_bind, Sem.run_pure, Result.andThen_ok, List.map_toArray, List.map_cons, List.map_nil, hd, hs, hrun]
  exact hK _ _ h

theorem wpList_appendRun {P : Program} {ops : Array Oper} {rest : List Oper} {o : Oper} {a : Act} {Q : Exit → Act → World → Prop} {sv xv v' : Value} (hgd : o.guard = none) (s x : Operand) (ts : Array TypeId)
    (ho : o.op = .call { callee := .builtin .append, args := #[s, x], argTypes := ts }) (hs : a.eval s = sv) (hx : a.eval x = xv) (hrun : ∀ ty, (Builtin.append_ ts ty #[sv, xv]).run P w = .ok v' w')
    (h : wpList P ops Q rest (a.put o.dst v') w') : wpList P ops Q (o :: rest) a w := by
  refine wpList_plain hgd fun _ hK => ?_
  unfold Oper.wp execOp
  simp only [ho, resolve, invoke, builtin, Sem.run_bind, Sem.run_pure, Result.andThen_ok, List.map_toArray, List.map_cons, List.map_nil, hs, hx, hrun]
  exact hK _ _ h
/-- the row behind a value of the call's own -/
theorem Own.row {T : TypeId} {base : Nat} (h : Own E T w base v xs) (hn : 0 < xs.length) : ∃ g cap cur, v = .slice (some ⟨g, 0, none⟩) xs.length cap ∧ base ≤ g ∧ w.heap[g]? = some (.cells cur T (0, 0)) ∧ xs.length ≤ cap ∧ cap ≤ maxLen ∧ cur.size = cap * E.k ∧ cur.toList.take (xs.length * E.k) = E.flat xs := by
  rcases h.2 with ⟨_, h0⟩ | h
  · omega
  · exact h
theorem row_insert {β : Type} (cur P D C : List β) (hc : cur.take (P.length + D.length) = P ++ D) (hz : P.length + D.length + C.length ≤ cur.length) :
    ((((cur.take (P.length + C.length) ++ D ++ cur.drop (P.length + C.length + D.length)).take P.length ++ C ++ (cur.take (P.length + C.length) ++ D ++ cur.drop (P.length + C.length + D.length)).drop (P.length + C.length))).take (P.length + C.length + D.length)) = P ++ C ++ D := by
  have hX : (cur.take (P.length + C.length)).length = P.length + C.length := by rw [List.length_take]; omega
  have h1 : (cur.take (P.length + C.length) ++ D ++ cur.drop (P.length + C.length + D.length)).take P.length = P := by
    rw [List.append_assoc, List.take_append_of_le_length (by omega), List.take_take, Nat.min_eq_left (by omega)]
    have := congrArg (List.take P.length) hc
    rw [List.take_take, Nat.min_eq_left (by omega)] at this
    simpa using this
  have h2 : (cur.take (P.length + C.length) ++ D ++ cur.drop (P.length + C.length + D.length)).drop (P.length + C.length) = D ++ cur.drop (P.length + C.length + D.length) := by
    rw [List.append_assoc, List.drop_append_of_le_length (by omega), List.drop_of_length_le (by omega), List.nil_append]
  rw [h1, h2, ← List.append_assoc, List.take_append_of_le_length (by simp; omega), List.take_of_length_le (by simp; omega)]
end
end Go.Proofs.Ytkmjehodmfnihaa
