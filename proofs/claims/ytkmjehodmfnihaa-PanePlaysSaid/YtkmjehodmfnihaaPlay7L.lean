/-
  PanePlays: the plain law: what the windows come to, on lists.
-/
import Derived.Test.YtkmjehodmfnihaaUp7
set_option linter.unusedSimpArgs false
set_option linter.unusedVariables false
namespace Go.Proofs.Ytkmjehodmfnihaa
open Go.RowKit

theorem neqS (x y : Span) (w : World) : (binOp .neq 28 x.val y.val).run Try.prog w = .ok (.bool (!decide (x = y))) w := by
  have := eqInS x y 9998 w
  simp only [Span.val] at this ⊢
  rw [run_neq_struct, this]; rfl
theorem Span.cmp_self (s : Span) : s.cmp s = 0 := by simp [Span.cmp, cmpS, orI, cmpI]
theorem Span.cmp_zero {x y : Span} (h : x.cmp y = 0) : x = y := by
  obtain ⟨a, b⟩ := x
  obtain ⟨c, d⟩ := y
  simp only [Span.cmp, cmpS, orI, cmpI] at h
  simp only [Span.mk.injEq]
  (repeat' split at h) <;> omega
theorem Span.cmp_flip {x y : Span} (h : ¬ x.cmp y < 0) (hne : x ≠ y) : y.cmp x < 0 := by
  have h0 : x.cmp y ≠ 0 := fun h0 => hne (Span.cmp_zero h0)
  obtain ⟨a, b⟩ := x
  obtain ⟨c, d⟩ := y
  simp only [Span.cmp, cmpS, orI, cmpI] at *
  (repeat' split at h) <;> (repeat' split at h0) <;> (repeat' split) <;> omega

theorem place_unique {xs : List Pane} (s : Span) (L : Nat) (hL : L ≤ xs.length) (h : ∀ k (hk : k < xs.length), decide (xs[k].sp.cmp s < 0) = decide (k < L)) : placeP xs s = L := by
  unfold placeP
  rcases Nat.lt_or_ge L xs.length with hlt | hge
  · rw [List.findIdx_eq hlt]
    refine ⟨?_, fun j hj => ?_⟩
    · have := h L hlt
      simp at this
      simpa using this
    · have := h j (by omega)
      simp [hj] at this
      simpa using this
  · have hLe : L = xs.length := by omega
    subst hLe
    rw [List.findIdx_eq_length]
    intro x hx
    obtain ⟨k, hk, rfl⟩ := List.getElem_of_mem hx
    have := h k hk
    simp [hk] at this
    simpa using this
theorem lastBelow_place {xs : List Pane} (hs : RisP xs) (s : Span) : lastBelow xs s xs.length = placeP xs s := by
  have key : ∀ k, k ≤ xs.length → lastBelow xs s k = min k (placeP xs s) := by
    intro k
    induction k with
    | zero => intro _; simp [lastBelow]
    | succ k ih =>
      intro hk
      unfold lastBelow
      rw [List.getElem?_eq_getElem (show k < xs.length by omega)]
      have h1 := placeP_spec hs s k (by omega)
      simp only [Option.getD_some, h1]
      have := ih (by omega)
      by_cases h2 : k < placeP xs s
      · simp [h2]; omega
      · simp [h2]; omega
  rw [key _ (Nat.le_refl _)]
  exact Nat.min_eq_right (placeP_le _ _)
theorem rise_idx {xs : List Pane} (hs : RisP xs) {s : Span} {k : Nat} (hk : k < xs.length) (h : xs[k].sp = s) : placeP xs s = k := by
  refine place_unique s k (by omega) fun i hi => ?_
  rcases Nat.lt_trichotomy i k with h1 | rfl | h1
  · have := List.pairwise_iff_getElem.1 hs i k hi hk h1
    rw [h] at this
    simp [h1, this]
  · rw [h, Span.cmp_self]; simp
  · have := List.pairwise_iff_getElem.1 hs k i hk hi h1
    rw [h] at this
    have h2 : ¬ xs[i].sp.cmp s < 0 := fun h3 => by
      have h4 := cmp_le_lt this h3
      rw [Span.cmp_self] at h4; omega
    simp [h2]; omega

/-- is it the same window (or, merging, do they meet)? -/
def sameF (mg : Bool) (s : Span) (x : Pane) : Bool := if mg then meetP x s else decide (x.sp = s)
def outF (f : Pane → Bool) (xs : List Pane) : List Pane := xs.filter fun x => !f x
def metF (f : Pane → Bool) (xs : List Pane) : List Pane := xs.filter f
def accF (p : Pane) (f : Pane → Bool) (xs : List Pane) : Pane := (metF f xs).foldl accP p
theorem outF_merge (s : Span) (xs : List Pane) : outF (sameF true s) xs = outM xs s := rfl
theorem metF_merge (s : Span) (xs : List Pane) : metF (sameF true s) xs = metM xs s := rfl
theorem accF_merge (p : Pane) (s : Span) (xs : List Pane) : accF p (sameF true s) xs = accM p xs s := rfl
theorem outF_snoc (f : Pane → Bool) (l : List Pane) (x : Pane) : outF f (l ++ [x]) = outF f l ++ if f x then [] else [x] := by
  unfold outF; rw [List.filter_append]; cases h : f x <;> simp [h]
theorem metF_snoc (f : Pane → Bool) (l : List Pane) (x : Pane) : metF f (l ++ [x]) = metF f l ++ if f x then [x] else [] := by
  unfold metF; rw [List.filter_append]; cases h : f x <;> simp [h]
theorem accF_snoc (p : Pane) (f : Pane → Bool) (l : List Pane) (x : Pane) : accF p f (l ++ [x]) = if f x then accP (accF p f l) x else accF p f l := by
  unfold accF; rw [metF_snoc]; cases h : f x <;> simp [h]
theorem outF_len (f : Pane → Bool) (xs : List Pane) : (outF f xs).length ≤ xs.length := List.length_filter_le _ _
theorem metF_len (f : Pane → Bool) (xs : List Pane) : (metF f xs).length ≤ xs.length := List.length_filter_le _ _
theorem RisP.out {xs : List Pane} (hs : RisP xs) (f : Pane → Bool) : RisP (outF f xs) := List.Pairwise.sublist List.filter_sublist hs

theorem hasP_iff {xs : List Pane} (hs : RisP xs) (s : Span) : hasP xs s = true ↔ ∃ k, ∃ h : k < xs.length, xs[k].sp = s := by
  unfold hasP
  constructor
  · intro h
    have hL := hitB_lt h
    refine ⟨_, hL, ?_⟩
    unfold hitB at h
    rw [List.getElem?_eq_getElem hL] at h
    simpa using h
  · rintro ⟨k, hk, h⟩
    rw [rise_idx hs hk h]
    unfold hitB
    rw [List.getElem?_eq_getElem hk]
    simp [h]
theorem has_cases {xs : List Pane} (hs : RisP xs) (s : Span) :
    (hasP xs s = false ∧ outF (sameF false s) xs = xs ∧ metF (sameF false s) xs = []) ∨
    ∃ k, ∃ h : k < xs.length, xs[k].sp = s ∧ hasP xs s = true ∧ placeP xs s = k ∧ outF (sameF false s) xs = xs.take k ++ xs.drop (k + 1) ∧ metF (sameF false s) xs = [xs[k]] := by
  cases hh : hasP xs s with
  | false =>
    refine .inl ⟨rfl, ?_, ?_⟩
    · unfold outF
      rw [List.filter_eq_self]
      intro x hx
      obtain ⟨k, hk, rfl⟩ := List.getElem_of_mem hx
      have : ¬ xs[k].sp = s := fun h => by
        have := (hasP_iff hs s).2 ⟨k, hk, h⟩
        rw [hh] at this; cases this
      simp [sameF, this]
    · unfold metF
      rw [List.filter_eq_nil_iff]
      intro x hx
      obtain ⟨k, hk, rfl⟩ := List.getElem_of_mem hx
      have : ¬ xs[k].sp = s := fun h => by
        have := (hasP_iff hs s).2 ⟨k, hk, h⟩
        rw [hh] at this; cases this
      simp [sameF, this]
  | true =>
    obtain ⟨k, hk, h⟩ := (hasP_iff hs s).1 hh
    have hp := rise_idx hs hk h
    have hne : ∀ i (hi : i < xs.length), i ≠ k → sameF false s xs[i] = false := fun i hi hik => by
      have : ¬ xs[i].sp = s := fun h2 => hik ((rise_idx hs hi h2).symm.trans hp)
      simp [sameF, this]
    have hyes : sameF false s xs[k] = true := by simp [sameF, h]
    have hx : xs = xs.take k ++ xs[k] :: xs.drop (k + 1) := by rw [List.getElem_cons_drop, List.take_append_drop]
    have h1 : ∀ x ∈ xs.take k, sameF false s x = false := fun x hx => by
      obtain ⟨i, hi, rfl⟩ := List.getElem_of_mem hx
      simp at hi
      rw [List.getElem_take]
      exact hne i (by omega) (by omega)
    have h2 : ∀ x ∈ xs.drop (k + 1), sameF false s x = false := fun x hx => by
      obtain ⟨i, hi, rfl⟩ := List.getElem_of_mem hx
      simp at hi
      rw [List.getElem_drop]
      exact hne _ (by omega) (by omega)
    refine .inr ⟨k, hk, h, rfl, hp, ?_, ?_⟩
    · unfold outF
      conv => lhs; rw [hx]
      rw [List.filter_append, List.filter_cons, hyes]
      simp only [Bool.not_true, Bool.false_eq_true, if_false]
      rw [List.filter_eq_self.2 (fun x hx => by rw [h1 x hx]; rfl), List.filter_eq_self.2 (fun x hx => by rw [h2 x hx]; rfl)]
    · unfold metF
      conv => lhs; rw [hx]
      rw [List.filter_append, List.filter_cons, hyes]
      simp only [if_true]
      rw [List.filter_eq_nil_iff.2 (fun x hx => by rw [h1 x hx]; simp), List.filter_eq_nil_iff.2 (fun x hx => by rw [h2 x hx]; simp)]
      rfl
theorem has_met {xs : List Pane} (hs : RisP xs) (s : Span) : hasP xs s = decide (0 < (metF (sameF false s) xs).length) := by
  rcases has_cases hs s with ⟨h, _, h2⟩ | ⟨k, hk, _, h, _, _, h2⟩ <;> rw [h, h2] <;> simp
theorem cut_out {xs : List Pane} (hs : RisP xs) (s : Span) : cutP xs s = outF (sameF false s) xs := by
  have e : ∀ b, hasP xs s = b → cutP xs s = if b then xs.eraseIdx (placeP xs s) else xs := by rintro _ rfl; rfl
  rcases has_cases hs s with ⟨h, h2, _⟩ | ⟨k, hk, _, h, h3, h2, _⟩
  · rw [e _ h, h2]; rfl
  · rw [e _ h, h2, h3, List.eraseIdx_eq_take_drop_succ]; rfl
theorem find_no {xs : List Pane} {s : Span} (h : hasP xs s = false) : findP xs s = zeroP := by
  unfold hasP at h
  unfold findP; rw [h]; rfl
theorem find_yes {xs : List Pane} (hs : RisP xs) {s : Span} (h : hasP xs s = true) : (findP xs s).sp = s := by
  obtain ⟨k, hk, h2⟩ := (hasP_iff hs s).1 h
  unfold hasP at h
  unfold findP
  rw [h, if_pos rfl, rise_idx hs hk h2, List.getElem?_eq_getElem hk]
  exact h2
theorem minI_self (a : Int) : minI a a = a := by unfold minI; split <;> omega
theorem maxI_self (a : Int) : maxI a a = a := by unfold maxI; split <;> omega
theorem Agg.merge_one (a : Agg) (v : Int) : (Agg.one v).merge a = a.merge (Agg.one v) := by
  unfold Agg.merge Agg.one
  by_cases h : a.n < 1
  · simp [h]
  · simp only [h, if_false]
    rw [if_neg (by decide), if_neg (by decide)]
    simp only [Agg.mk.injEq]
    refine ⟨by rw [Int.add_comm], by rw [Int.add_comm], ?_, ?_⟩
    · unfold minI; repeat' split
      all_goals omega
    · unfold maxI; repeat' split
      all_goals omega
def keysP (xs : List Pane) (key : ByteArray) : Prop := ∀ x ∈ xs, x.key = key
theorem put_set {xs : List Pane} (hs : RisP xs) {key : ByteArray} (hk : keysP xs key) (s : Span) (v : Int) :
    putP xs key s v = setP (outF (sameF false s) xs) (accF ⟨key, s, Agg.one v⟩ (sameF false s) xs) := by
  have e : ∀ b, hasP xs s = b → putP xs key s v = if b then (match xs[placeP xs s]? with | some p => xs.set (placeP xs s) (p.withAg (p.ag.merge (Agg.one v))) | none => xs)
      else xs.take (placeP xs s) ++ ⟨key, s, Agg.one v⟩ :: xs.drop (placeP xs s) := by rintro _ rfl; rfl
  rcases has_cases hs s with ⟨h, h2, h4⟩ | ⟨k, hlt, hsp, h, h3, h2, h4⟩
  · rw [e _ h, h2]
    have : accF ⟨key, s, Agg.one v⟩ (sameF false s) xs = ⟨key, s, Agg.one v⟩ := by unfold accF; rw [h4]; rfl
    rw [this]
    unfold setP
    rw [lastBelow_place hs]
    simp
  · have hr := hs.out (sameF false s)
    have ha : accF ⟨key, s, Agg.one v⟩ (sameF false s) xs = ⟨key, s, xs[k].ag.merge (Agg.one v)⟩ := by
      unfold accF
      rw [h4]
      simp only [List.foldl_cons, List.foldl_nil, accP, joinS, hsp, minI_self, maxI_self, Agg.merge_one]
    rw [e _ h, h3, List.getElem?_eq_getElem hlt, ha]
    unfold setP
    rw [lastBelow_place hr]
    rw [h2] at hr ⊢
    have hpl : placeP (xs.take k ++ xs.drop (k + 1)) s = k := by
      refine place_unique s k (by simp; omega) fun i hi => ?_
      have hsp2 := placeP_spec hs s
      rw [h3] at hsp2
      simp only [List.length_append, List.length_take, List.length_drop] at hi
      by_cases hik : i < k
      · rw [List.getElem_append_left (by simp; omega), List.getElem_take]
        exact hsp2 i (by omega)
      · rw [List.getElem_append_right (by simp; omega), List.getElem_drop]
        have e0 : k + 1 + (i - (xs.take k).length) = i + 1 := by simp; omega
        have h5 := hsp2 (i + 1) (by omega)
        have e1 : decide (i + 1 < k) = false := by simp; omega
        have e2 : decide (i < k) = false := by simp; omega
        simp only [e0]
        rw [h5, e1, e2]
    rw [hpl]
    have hl : (xs.take k).length = k := by simp; omega
    simp only [if_true]
    rw [List.set_eq_take_append_cons_drop, if_pos hlt, List.take_left' hl, List.drop_left' hl]
    simp only [Pane.withAg, hsp, hk xs[k] (List.getElem_mem hlt)]
    simp
theorem merge_set {xs : List Pane} (hs : RisP xs) (p : Pane) : xs.take (placeP xs p.sp) ++ p :: xs.drop (placeP xs p.sp) = setP xs p := by
  unfold setP
  rw [lastBelow_place hs]
  simp
theorem set_rise {xs : List Pane} (hs : RisP xs) (p : Pane) (hne : ∀ x ∈ xs, x.sp ≠ p.sp) : RisP (setP xs p) := by
  unfold setP
  rw [lastBelow_place hs]
  have h1 := placeP_spec hs p.sp
  have h2 := placeP_le xs p.sp
  unfold RisP at hs ⊢
  have ht : ∀ x ∈ xs.take (placeP xs p.sp), x.sp.cmp p.sp < 0 := fun x hx => by
    obtain ⟨i, hi, rfl⟩ := List.getElem_of_mem hx
    simp at hi
    rw [List.getElem_take]
    have := h1 i (by omega)
    simpa [show i < placeP xs p.sp by omega] using this
  have hd : ∀ x ∈ xs.drop (placeP xs p.sp), p.sp.cmp x.sp < 0 := fun x hx => by
    obtain ⟨i, hi, rfl⟩ := List.getElem_of_mem hx
    simp at hi
    rw [List.getElem_drop]
    have := h1 (placeP xs p.sp + i) (by omega)
    refine Span.cmp_flip ?_ (hne _ (List.getElem_mem _))
    simp at this
    omega
  have hsplit : (xs.take (placeP xs p.sp) ++ xs.drop (placeP xs p.sp)).Pairwise fun p q => p.sp.cmp q.sp < 0 := by rw [List.take_append_drop]; exact hs
  have hpw := List.pairwise_append.1 hsplit
  rw [List.append_assoc]
  refine List.pairwise_append.2 ⟨hpw.1, ?_, ?_⟩
  · exact List.Pairwise.cons (fun y hy => hd y (by simpa using hy)) hpw.2.1
  · intro x hx y hy
    rcases List.mem_cons.1 (by simpa using hy) with rfl | h3
    · exact ht x hx
    · exact hpw.2.2 x hx y h3
theorem out_ne (s : Span) (xs : List Pane) : ∀ x ∈ outF (sameF false s) xs, x.sp ≠ s := fun x hx => by
  have := (List.mem_filter.1 hx).2
  simpa [sameF] using this
theorem keys_out {xs : List Pane} {key : ByteArray} (hk : keysP xs key) (f : Pane → Bool) : keysP (outF f xs) key := fun x hx => hk x (List.mem_filter.1 hx).1
theorem keys_set {xs : List Pane} {key : ByteArray} (hk : keysP xs key) {p : Pane} (hp : p.key = key) : keysP (setP xs p) key := fun x hx => by
  unfold setP at hx
  simp only [List.mem_append, List.mem_singleton] at hx
  rcases hx with (h | rfl) | h
  · exact hk x (List.mem_of_mem_take h)
  · exact hp
  · exact hk x (List.mem_of_mem_drop h)
theorem acc_key (p : Pane) (f : Pane → Bool) (xs : List Pane) : (accF p f xs).key = p.key := by
  unfold accF
  generalize metF f xs = l
  induction l generalizing p with
  | nil => rfl
  | cons x l ih => rw [List.foldl_cons, ih]; rfl
theorem acc_same (key : ByteArray) (s : Span) (v : Int) {xs : List Pane} (hs : RisP xs) : (accF ⟨key, s, Agg.one v⟩ (sameF false s) xs).sp = s := by
  rcases has_cases hs s with ⟨_, _, h4⟩ | ⟨k, hlt, hsp, _, _, _, h4⟩
  · unfold accF; rw [h4]; rfl
  · unfold accF
    rw [h4]
    simp only [List.foldl_cons, List.foldl_nil, accP, joinS, hsp, minI_self, maxI_self]
theorem of_self {xs : List Pane} {key : ByteArray} (hk : keysP xs key) : ofKey xs key = xs := by
  unfold ofKey
  rw [List.filter_eq_self]
  intro x hx
  simp [hk x hx]
theorem set_len (xs : List Pane) (p : Pane) : (setP xs p).length = xs.length + 1 := by
  unfold setP
  have := lastBelow_le xs p.sp xs.length
  simp; omega
theorem drop_snoc (l : List Span) (x s : Span) : dropS (l ++ [x]) s = dropS l s ++ if x = s then [] else [x] := by
  unfold dropS; rw [List.filter_append]; by_cases h : x = s <;> simp [h]
theorem drop_at {l : List Span} {s : Span} {k : Nat} (hk : k < l.length) (hne : l[k] ≠ s) : ∃ h : (dropS (l.take k) s).length < (dropS l s).length, (dropS l s)[(dropS (l.take k) s).length] = l[k] := by
  have e : dropS l s = dropS (l.take k) s ++ (l[k] :: dropS (l.drop (k + 1)) s) := by
    conv => lhs; rw [show l = l.take k ++ l[k] :: l.drop (k + 1) by rw [List.getElem_cons_drop, List.take_append_drop]]
    unfold dropS
    rw [List.filter_append, List.filter_cons]
    simp [hne]
  refine ⟨by rw [e]; simp, ?_⟩
  simp only [e]
  rw [List.getElem_append_right (Nat.le_refl _)]
  simp
end Go.Proofs.Ytkmjehodmfnihaa
