/-
  A region whose order is open and in which one operation j (an allocation that waits for nothing) may come up ahead of a call or behind it: walked in both orders.
-/
import Derived.Test.YtkmjehodmfnihaaPin
set_option linter.unusedSimpArgs false
set_option linter.unusedVariables false
namespace Go.Proofs.Ytkmjehodmfnihaa
open Go
section
variable {P : Program} {ops : Array Oper} {S : World → Prop}

/-- l1 may come up ahead of j or behind it, rest behind it -/
def wpFl (P : Program) (ops : Array Oper) (S : World → Prop) (Q : Exit → Act → World → Prop) (j : Nat) (rest : List (Nat × PinKind)) : List (Nat × PinKind) → (World → Prop) → Act → Prop
  | [], C, a => wpPin P ops S Q ((j, .loud) :: rest) C a
  | (i, k) :: l1, C, a =>
    match ops[i]? with
    | none => False
    | some o =>
      match k with
      | .copy => ∃ v, YieldsIf P ops (fun _ => True) o v a ∧ wpFl P ops S Q j rest l1 C (a.put o.dst v)
      | .free => ∃ v, YieldsIf P ops S o v a ∧ wpFl P ops S Q j rest l1 C (a.put o.dst v)
      | .loud => wpPin P ops S Q ((j, .loud) :: (i, .loud) :: (l1 ++ rest)) C a ∧ ∀ W, C W → wpOp P ops Q i (fun a' W' => ∃ C' : World → Prop, C' W' ∧ (∀ W, C' W → S W) ∧ wpFl P ops S Q j rest l1 C' a') a W
      | _ => False

/-- j comes up first -/
theorem fl_pull_j {Q : Exit → Act → World → Prop} {B : Array Nat} {j : Nat} {oj : Oper} {rest : List (Nat × PinKind)} (hj : ops[j]? = some oj) (hB0 : B.getD j 0 = 0) (hsel : ∀ (j : Nat) (o : Oper) cs b, ops[j]? = some o → o.op ≠ .select cs b)
    (hQ : ∀ c a w, ¬ Q (.panic c) a w) :
    ∀ (l1 : List (Nat × PinKind)) (C : World → Prop) (a : Act), (∀ x ∈ l1, x.2 = .loud ∨ pinPair B ops x (j, .loud) = true) → wpFl P ops S Q j rest l1 C a →
      ∀ W, C W → wpOp P ops Q j (fun a' W' => ∃ C' : World → Prop, C' W' ∧ (∀ W, C' W → S W) ∧ wpPin P ops S Q (l1 ++ rest) C' a') a W := by
  intro l1
  induction l1 with
  | nil =>
    intro C a _ h W hW
    simp only [wpFl, wpPin, hj] at h
    exact h W hW
  | cons x l1 ih =>
    intro C a hx h W hW
    obtain ⟨x, kx⟩ := x
    simp only [wpFl] at h
    cases hox : ops[x]? with
    | none => simp only [hox] at h
    | some ox =>
      simp only [hox] at h
      have hx0 := hx (x, kx) (by simp)
      have ih' := fun C a h => ih C a (fun z hz => hx z (List.mem_cons_of_mem _ hz)) h
      cases kx with
      | still => exact h.elim
      | turn => exact h.elim
      | loud =>
        have h1 := h.1
        simp only [wpPin, hj] at h1
        have h2 := h1 W hW
        exact h2
      | copy =>
        rcases hx0 with hx0 | hx0
        · cases hx0
        obtain ⟨ox', oy, hox', hoy, _, _, hor⟩ := pinPair_spec hx0
        simp only at hox' hoy hor
        rw [hox] at hox'; rw [hj] at hoy
        obtain rfl := Option.some.inj hox'
        obtain rfl := Option.some.inj hoy
        rcases hor with hor | ⟨hap, _⟩
        · rw [hB0] at hor; simp at hor
        obtain ⟨v, hy, h⟩ := h
        have h1 := ih' _ _ h W hW
        have h2 := wpOp_putIf (Q := Q) hj hap (fun cs b => hsel x ox cs b hox) (fun cs b => hsel j oj cs b hj) (fun c a w hq => absurd hq (hQ _ _ _)) hy h1
        exact wpOp_mono (fun a' W' ⟨hy, C', hC', hCS, hr⟩ => ⟨C', hC', hCS, by simp only [List.cons_append, wpPin, hox]; exact ⟨v, hy, hr⟩⟩) h2
      | free =>
        rcases hx0 with hx0 | hx0
        · cases hx0
        obtain ⟨ox', oy, hox', hoy, _, _, hor⟩ := pinPair_spec hx0
        simp only at hox' hoy hor
        rw [hox] at hox'; rw [hj] at hoy
        obtain rfl := Option.some.inj hox'
        obtain rfl := Option.some.inj hoy
        rcases hor with hor | ⟨hap, _⟩
        · rw [hB0] at hor; simp at hor
        obtain ⟨v, hy, h⟩ := h
        have h1 := ih' _ _ h W hW
        have h2 := wpOp_putIf (Q := Q) hj hap (fun cs b => hsel x ox cs b hox) (fun cs b => hsel j oj cs b hj) (fun c a w hq => absurd hq (hQ _ _ _)) hy h1
        exact wpOp_mono (fun a' W' ⟨hy, C', hC', hCS, hr⟩ => ⟨C', hC', hCS, by simp only [List.cons_append, wpPin, hox]; exact ⟨v, hy, hr⟩⟩) h2

/-- a free one comes up -/
theorem fl_pull_free {Q : Exit → Act → World → Prop} {B : Array Nat} {j i : Nat} {oi : Oper} {k : PinKind} {rest : List (Nat × PinKind)} (hi : ops[i]? = some oi) (hsel : ∀ (j : Nat) (o : Oper) cs b, ops[j]? = some o → o.op ≠ .select cs b) (hk : k ≠ .loud) :
    ∀ (l1 l2 : List (Nat × PinKind)) (C : World → Prop) (a : Act), (∀ x ∈ l1, pinPair B ops x (i, k) = true ∧ (B.getD i 0).testBit x.1 = false) → wpFl P ops S Q j rest (l1 ++ (i, k) :: l2) C a →
      ∃ v, (k = .copy ∧ YieldsIf P ops (fun _ => True) oi v a ∨ k = .free ∧ YieldsIf P ops S oi v a) ∧ wpFl P ops S Q j rest (l1 ++ l2) C (a.put oi.dst v) := by
  intro l1
  induction l1 with
  | nil =>
    intro l2 C a _ h
    simp only [List.nil_append, wpFl, hi] at h
    cases k with
    | loud => exact absurd rfl hk
    | turn => exact h.elim
    | still => exact h.elim
    | copy => obtain ⟨v, h1, h2⟩ := h; exact ⟨v, .inl ⟨rfl, h1⟩, h2⟩
    | free => obtain ⟨v, h1, h2⟩ := h; exact ⟨v, .inr ⟨rfl, h1⟩, h2⟩
  | cons x l1 ih =>
    intro l2 C a hx h
    obtain ⟨x, kx⟩ := x
    obtain ⟨hp, hb⟩ := hx (x, kx) (by simp)
    obtain ⟨ox, oy, hox, hoy, hne, _, hor⟩ := pinPair_spec hp
    simp only at hox hoy hb
    rw [hi] at hoy
    obtain rfl := Option.some.inj hoy
    rcases hor with hor | ⟨hap, hnl, hnt, _⟩
    · simp only at hor; rw [hb] at hor; cases hor
    simp only [List.cons_append, wpFl, hox] at h ⊢
    obtain ⟨a1, a2, a3⟩ := Oper.apart_spec hap
    have hsx := fun cs b => hsel x ox cs b hox
    have hsi := fun cs b => hsel i oi cs b hi
    have ih' := fun C a h => ih l2 C a (fun z hz => hx z (List.mem_cons_of_mem _ hz)) h
    have back : ∀ {vx v : Value}, (k = .copy ∧ YieldsIf P ops (fun _ => True) oi v (a.put ox.dst vx) ∨ k = .free ∧ YieldsIf P ops S oi v (a.put ox.dst vx)) → (k = .copy ∧ YieldsIf P ops (fun _ => True) oi v a ∨ k = .free ∧ YieldsIf P ops S oi v a) := by
      intro vx v h
      have e1 := execOp_put (ops := ops) oi hsi a ox.dst vx a1
      have e2 := wanted_put (ops := ops) oi a ox.dst vx a1
      rcases h with ⟨h1, h2⟩ | ⟨h1, h2⟩
      · exact .inl ⟨h1, h2.of_same e1.symm e2.symm⟩
      · exact .inr ⟨h1, h2.of_same e1.symm e2.symm⟩
    cases kx with
    | loud => exact absurd rfl hnl
    | turn => exact absurd rfl hnt
    | still => exact h.elim
    | copy =>
      obtain ⟨vx, hyx, h⟩ := h
      obtain ⟨v, hyi, h⟩ := ih' _ _ h
      refine ⟨v, back hyi, vx, hyx.of_same (execOp_put ox hsx a oi.dst v a3) (wanted_put ox a oi.dst v a3), ?_⟩
      rw [← Act.put_comm a vx v a2]; exact h
    | free =>
      obtain ⟨vx, hyx, h⟩ := h
      obtain ⟨v, hyi, h⟩ := ih' _ _ h
      refine ⟨v, back hyi, vx, hyx.of_same (execOp_put ox hsx a oi.dst v a3) (wanted_put ox a oi.dst v a3), ?_⟩
      rw [← Act.put_comm a vx v a2]; exact h

/-- a loud one comes up ahead of j -/
theorem fl_pull_loud {Q : Exit → Act → World → Prop} {B : Array Nat} {j i : Nat} {oi : Oper} {rest : List (Nat × PinKind)} (hi : ops[i]? = some oi) (hsel : ∀ (j : Nat) (o : Oper) cs b, ops[j]? = some o → o.op ≠ .select cs b)
    (hQ : ∀ c a w, ¬ Q (.panic c) a w) :
    ∀ (l1 l2 : List (Nat × PinKind)) (C : World → Prop) (a : Act), (∀ x ∈ l1, pinPair B ops x (i, .loud) = true ∧ (B.getD i 0).testBit x.1 = false) → wpFl P ops S Q j rest (l1 ++ (i, .loud) :: l2) C a →
      ∀ W, C W → wpOp P ops Q i (fun a' W' => ∃ C' : World → Prop, C' W' ∧ (∀ W, C' W → S W) ∧ wpFl P ops S Q j rest (l1 ++ l2) C' a') a W := by
  intro l1
  induction l1 with
  | nil =>
    intro l2 C a _ h W hW
    simp only [List.nil_append, wpFl, hi] at h
    exact h.2 W hW
  | cons x l1 ih =>
    intro l2 C a hx h W hW
    obtain ⟨x, kx⟩ := x
    obtain ⟨hp, hb⟩ := hx (x, kx) (by simp)
    obtain ⟨ox, oy, hox, hoy, hne, _, hor⟩ := pinPair_spec hp
    simp only at hox hoy hb
    rw [hi] at hoy
    obtain rfl := Option.some.inj hoy
    rcases hor with hor | ⟨hap, hnl, hnt, hfr, _⟩
    · simp only at hor; rw [hb] at hor; cases hor
    simp only [List.cons_append, wpFl, hox] at h ⊢
    cases kx with
    | loud => exact absurd rfl hnl
    | turn => exact absurd rfl hnt
    | still => exact h.elim
    | free =>
      obtain ⟨vx, hyx, h⟩ := h
      have h1 := ih l2 C _ (fun z hz => hx z (List.mem_cons_of_mem _ hz)) h W hW
      have h2 := wpOp_putIf (Q := Q) hi hap (fun cs b => hsel x ox cs b hox) (fun cs b => hsel i oi cs b hi) (fun c a w hq => absurd hq (hQ _ _ _)) hyx h1
      exact wpOp_mono (fun a' W' ⟨hy, C', hC', hCS, hr⟩ => ⟨C', hC', hCS, vx, hy, hr⟩) h2
    | copy =>
      obtain ⟨vx, hyx, h⟩ := h
      have h1 := ih l2 C _ (fun z hz => hx z (List.mem_cons_of_mem _ hz)) h W hW
      have h2 := wpOp_putIf (Q := Q) hi hap (fun cs b => hsel x ox cs b hox) (fun cs b => hsel i oi cs b hi) (fun c a w hq => absurd hq (hQ _ _ _)) hyx h1
      exact wpOp_mono (fun a' W' ⟨hy, C', hC', hCS, hr⟩ => ⟨C', hC', hCS, vx, hy, hr⟩) h2

theorem wpAny_of_fl {Q : Exit → Act → World → Prop} {B : Array Nat} {j : Nat} {oj : Oper} {rest : List (Nat × PinKind)} (hf : pinFit B ops = true) (hj : ops[j]? = some oj) (hB0 : B.getD j 0 = 0) (hj0 : ∀ e ∈ oj.after, Region.binds .any e = false)
    (hsel : ∀ (j : Nat) (o : Oper) cs b, ops[j]? = some o → o.op ≠ .select cs b) (hQ : ∀ c a w, ¬ Q (.panic c) a w) (hjr : ∀ x ∈ rest, pinPair B ops (j, .loud) x = true) :
    ∀ (n : Nat) (l : List (Nat × PinKind)) (listed : Array Bool) (C : World → Prop) (a : Act) (W : World), l.length + rest.length + 1 = n → (l ++ rest).Pairwise (fun x y => pinPair B ops x y = true) →
      (∀ x ∈ l, x.1 ≠ j ∧ (x.2 = .loud ∨ pinPair B ops x (j, .loud) = true)) →
      listed.size = ops.size → (∀ m, m < ops.size → (listed.getD m true = false ↔ m = j ∨ ∃ k, (m, k) ∈ l ++ rest)) → PinShut B listed → C W → (∀ W, C W → S W) → wpFl P ops S Q j rest l C a → wpAny P .any ops Q n listed a W := by
  intro n
  have hjlt : j < ops.size := (Array.getElem?_eq_some_iff.1 hj).1
  induction n with
  | zero => intro l listed C a W hl; omega
  | succ n ih =>
    intro l listed C a W hl hp hx hz hun hs hC hCS h
    have hjready : j ∈ Region.ready .any ops listed := mem_ready.2 ⟨(hun j hjlt).2 (.inl rfl), oj, hj, fun e he hb => by rw [hj0 e he] at hb; cases hb⟩
    constructor
    · intro hr; rw [hr] at hjready; cases hjready
    · intro i hi
      obtain ⟨h0, oi, hoi, hall⟩ := mem_ready.1 hi
      have hlt : i < ops.size := (Array.getElem?_eq_some_iff.1 hoi).1
      rcases (hun i hlt).1 h0 with rfl | ⟨k, hk⟩
      · -- j itself
        rw [hj] at hoi
        obtain rfl := Option.some.inj hoi
        have h1 := fl_pull_j (B := B) hj hB0 hsel hQ l C a (fun x hx' => (hx x hx').2) h W hC
        refine wpOp_mono (fun a' W' ⟨C', hC', hCS', h'⟩ => ?_) h1
        refine wpAny_of_pin hf hsel hQ n (l ++ rest) _ S C' a' W' (by simp; omega) hp (by simpa using hz) ?_ (hs.set hf hi) hC' hCS' h'
        intro m hm
        have hne : ∀ x ∈ l ++ rest, x.1 ≠ i := by
          intro x hx' hxi
          rcases List.mem_append.1 hx' with h1 | h1
          · exact (hx x h1).1 hxi
          · obtain ⟨_, _, _, _, hne, _⟩ := pinPair_spec (hjr x h1)
            exact hne hxi.symm
        by_cases him : i = m
        · subst him
          have : (listed.setIfInBounds i true).getD i true = true := by
            have h' : i < listed.size := by omega
            simp [h']
          rw [this]
          exact ⟨fun h => Bool.noConfusion h, fun ⟨k', hk'⟩ => absurd rfl (hne _ hk')⟩
        · rw [getD_set_ne true him, hun m hm]
          exact ⟨fun h => h.resolve_left (fun h => him h.symm), .inr⟩
      · have hnj : i ≠ j := by
          rintro rfl
          rcases List.mem_append.1 hk with h1 | h1
          · exact (hx _ h1).1 rfl
          · obtain ⟨_, _, _, _, hne, _⟩ := pinPair_spec (hjr _ h1)
            exact hne rfl
        have notyet : ∀ m, listed.getD m true = false → (B.getD i 0).testBit m = false := by
          intro m hm
          cases hb : (B.getD i 0).testBit m with
          | false => rfl
          | true =>
            have h1 := ready_reach hf hs hi m hb
            rw [getD_two hm] at h1; cases h1
        rcases List.mem_append.1 hk with hkl | hkr
        · obtain ⟨l1, l2, rfl⟩ := List.append_of_mem hkl
          have hp' : (l1 ++ (i, k) :: (l2 ++ rest)).Pairwise (fun x y => pinPair B ops x y = true) := by simpa using hp
          have hpw := List.pairwise_append.1 hp'
          have hxx : ∀ x ∈ l1, pinPair B ops x (i, k) = true ∧ (B.getD i 0).testBit x.1 = false := by
            intro x hx'
            have hpx := hpw.2.2 x hx' (i, k) (by simp)
            obtain ⟨ox, _, hox, _⟩ := pinPair_spec hpx
            exact ⟨hpx, notyet x.1 ((hun x.1 (Array.getElem?_eq_some_iff.1 hox).1).2 (.inr ⟨x.2, by simp [hx']⟩))⟩
          have hp2 : ((l1 ++ l2) ++ rest).Pairwise (fun x y => pinPair B ops x y = true) := by
            rw [List.append_assoc]
            exact List.pairwise_append.2 ⟨hpw.1, (List.pairwise_cons.1 hpw.2.1).2, fun x hx y hy => hpw.2.2 x hx y (List.mem_cons_of_mem _ hy)⟩
          have hne1 : ∀ x ∈ (l1 ++ l2) ++ rest, x.1 ≠ i := by
            intro x hx' hxi
            rw [List.append_assoc] at hx'
            rcases List.mem_append.1 hx' with h1 | h1
            · obtain ⟨_, _, _, _, hne, _⟩ := pinPair_spec (hpw.2.2 x h1 (i, k) (by simp))
              exact hne hxi
            · obtain ⟨_, _, _, _, hne, _⟩ := pinPair_spec (List.rel_of_pairwise_cons hpw.2.1 h1)
              exact hne hxi.symm
          have hun2 : ∀ m, m < ops.size → ((listed.setIfInBounds i true).getD m true = false ↔ m = j ∨ ∃ k', (m, k') ∈ (l1 ++ l2) ++ rest) := by
            intro m hm
            by_cases him : i = m
            · subst him
              have : (listed.setIfInBounds i true).getD i true = true := by
                have h' : i < listed.size := by omega
                simp [h']
              rw [this]
              exact ⟨fun h => Bool.noConfusion h, fun h => by
                rcases h with h | ⟨k', hk'⟩
                · exact absurd h hnj
                · exact absurd rfl (hne1 _ hk')⟩
            · rw [getD_set_ne true him, hun m hm]
              refine or_congr Iff.rfl ?_
              constructor
              · rintro ⟨k', hk'⟩
                refine ⟨k', ?_⟩
                simp only [List.mem_append, List.mem_cons] at hk' ⊢
                rcases hk' with (h1 | h1 | h1) | h1
                · exact .inl (.inl h1)
                · injection h1 with h3 _; exact absurd h3.symm him
                · exact .inl (.inr h1)
                · exact .inr h1
              · rintro ⟨k', hk'⟩
                refine ⟨k', ?_⟩
                simp only [List.mem_append, List.mem_cons] at hk' ⊢
                rcases hk' with (h1 | h1) | h1
                · exact .inl (.inl h1)
                · exact .inl (.inr (.inr h1))
                · exact .inr h1
          have hx2 : ∀ x ∈ l1 ++ l2, x.1 ≠ j ∧ (x.2 = .loud ∨ pinPair B ops x (j, .loud) = true) := fun x hx' => hx x (by
            rcases List.mem_append.1 hx' with h1 | h1
            · exact List.mem_append_left _ h1
            · exact List.mem_append_right _ (List.mem_cons_of_mem _ h1))
          have fin : ∀ C' a' W', C' W' → (∀ W, C' W → S W) → wpFl P ops S Q j rest (l1 ++ l2) C' a' → wpAny P .any ops Q n (listed.setIfInBounds i true) a' W' := fun C' a' W' hC' hCS' h' =>
            ih (l1 ++ l2) _ C' a' W' (by simp at hl ⊢; omega) hp2 hx2 (by simpa using hz) hun2 (hs.set hf hi) hC' hCS' h'
          by_cases hkl' : k = .loud
          · subst hkl'
            exact wpOp_mono (fun a' W' ⟨C', hC', hCS', h'⟩ => fin C' a' W' hC' hCS' h') (fl_pull_loud (B := B) hoi hsel hQ l1 l2 C a hxx h W hC)
          · obtain ⟨v, hy, h'⟩ := fl_pull_free (B := B) hoi hsel hkl' l1 l2 C a hxx h
            rcases hy with ⟨rfl, hy⟩ | ⟨rfl, hy⟩
            · exact YieldsIf.wpOp hoi hy trivial (fin _ _ _ hC hCS h')
            · exact YieldsIf.wpOp hoi hy (hCS W hC) (fin _ _ _ hC hCS h')
        · exfalso
          obtain ⟨_, _, _, _, _, _, hor⟩ := pinPair_spec (hjr _ hkr)
          rcases hor with hor | ⟨_, hnl, _⟩
          · rw [notyet j ((hun j hjlt).2 (.inl rfl))] at hor; cases hor
          · exact hnl rfl

/-- what comes behind a loud operation ahead of j -/
def FlOn (P : Program) (ops : Array Oper) (S : World → Prop) (Q : Exit → Act → World → Prop) (j : Nat) (rest l1 : List (Nat × PinKind)) : Exit → Act → World → Prop
  | .normal, a', W' => ∃ C' : World → Prop, C' W' ∧ (∀ W, C' W → S W) ∧ wpFl P ops S Q j rest l1 C' a'
  | e, a', W' => Q e a' W'
theorem wpFl_loud {Q : Exit → Act → World → Prop} {i j : Nat} (o : Oper) {rest l1 : List (Nat × PinKind)} {C : World → Prop} {a : Act} (hi : ops[i]? = some o)
    (h0 : wpPin P ops S Q ((j, .loud) :: (i, .loud) :: (l1 ++ rest)) C a)
    (h : ∀ W, C W → wpList P ops (FlOn P ops S Q j rest l1) [o] a W) : wpFl P ops S Q j rest ((i, .loud) :: l1) C a := by
  simp only [wpFl, hi]
  refine ⟨h0, ?_⟩
  intro W hW
  have h1 := h W hW
  unfold wpOp
  simp only [hi]
  simp only [wpList] at h1
  split
  · rename_i hw
    simp only [hw, if_true] at h1
    rcases h1 with h1 | ⟨h1, h2⟩
    · refine .inl ?_
      unfold Oper.wp at *
      generalize (execOp a.eval o).run P W = r at *
      cases r with
      | ok n w' =>
        cases n <;> simp only [Oper.upon] at h1 ⊢ <;>
          first
            | exact h1
            | exact Calls.mono h1 (fun e w'' he => by cases e <;> exact he)
      | halt x w' => cases x <;> simp only [Oper.upon] at h1 ⊢ <;> exact h1
    · exact .inr ⟨h1, h2⟩
  · rename_i hw
    simp only [hw] at h1
    exact h1
theorem wpFl_freeIx {Q : Exit → Act → World → Prop} {j : Nat} {rest l1 : List (Nat × PinKind)} {C : World → Prop} {W0 : World} (hS : S W0) (is : List Nat) : ∀ (l : List Oper) {a : Act}, is.map (fun i => ops[i]?) = l.map some → (l.all fun o => freeKind o.op) = true →
    wpQuiet P ops S (fun a' => wpFl P ops S Q j rest l1 C a') l a → wpFl P ops S Q j rest (is.map (kindIx ops) ++ l1) C a := by
  induction is with
  | nil =>
    intro l a hl _ h
    cases l with
    | nil => exact h
    | cons o l => cases hl
  | cons i is ih =>
    intro l a hl hk h
    cases l with
    | nil => cases hl
    | cons o l =>
      simp only [List.map_cons, List.cons.injEq] at hl
      simp only [List.all_cons, Bool.and_eq_true] at hk
      have e : ∀ a, wpQuiet P ops S (fun a' => wpFl P ops S Q j rest l1 C a') l a → wpFl P ops S Q j rest (is.map (kindIx ops) ++ l1) C a := fun a h => ih l hl.2 hk.2 h
      have h4 : ∃ v, (kindIx ops i = (i, .copy) ∧ YieldsIf P ops (fun _ => True) o v a ∨ kindIx ops i = (i, .free) ∧ YieldsIf P ops S o v a) ∧ wpFl P ops S Q j rest (is.map (kindIx ops) ++ l1) C (a.put o.dst v) := by
        have h5 := wpPin_freeS (P := P) (ops := ops) (S := S) (Q := fun _ a _ => wpFl P ops S Q j rest (is.map (kindIx ops) ++ l1) C a) (rest := []) (C := fun W => W = W0) hS [o] i (a := a) (fun j hj => by
          have : j = 0 := by simpa using hj
          subst this; simpa using hl.1) (by simp only [List.all_cons, Bool.and_eq_true]; exact ⟨hk.1, rfl⟩)
          (by
            have e2 : ∀ a, wpQuiet P ops S (fun a' => wpFl P ops S Q j rest l1 C a') l a → wpQuiet P ops S (fun a' => wpPin P ops S (fun _ a _ => wpFl P ops S Q j rest (is.map (kindIx ops) ++ l1) C a) [] (fun W => W = W0) a') [] a := fun a h W _ => e a h
            simp only [wpQuiet] at h ⊢
            split
            · rename_i hw; simp only [hw, if_true] at h; exact Oper.quiet_mono (fun a h => e2 a h) h
            · rename_i hw; simp only [hw] at h; exact e2 _ h)
        simp only [freeS, List.append_nil] at h5
        have hki : kindIx ops i = (i, freeKinds o) := by unfold kindIx; rw [hl.1]
        rw [hki]
        have hfk : freeKinds o = .copy ∨ freeKinds o = .free := by unfold freeKinds; split <;> simp
        rcases hfk with hfk | hfk
        · rw [hfk] at h5 ⊢
          simp only [wpPin, hl.1] at h5
          obtain ⟨v, hy, h6⟩ := h5
          exact ⟨v, .inl ⟨rfl, hy⟩, h6 W0 rfl⟩
        · rw [hfk] at h5 ⊢
          simp only [wpPin, hl.1] at h5
          obtain ⟨v, hy, h6⟩ := h5
          exact ⟨v, .inr ⟨rfl, hy⟩, h6 W0 rfl⟩
      obtain ⟨v, hy, h5⟩ := h4
      rcases hy with ⟨hk', hy⟩ | ⟨hk', hy⟩
      · rw [List.map_cons, List.cons_append, hk']
        simp only [wpFl, hl.1]
        exact ⟨v, hy, h5⟩
      · rw [List.map_cons, List.cons_append, hk']
        simp only [wpFl, hl.1]
        exact ⟨v, hy, h5⟩

def flB (ops : Array Oper) (j : Nat) (l1 rest : List (Nat × PinKind)) : Bool :=
  Region.noSelect ops && pinFit (pinReach ops) ops && pinPairs (pinReach ops) ops (l1 ++ rest) && (l1.length + rest.length + 1 == ops.size) &&
  ((List.range ops.size).all fun i => i == j || (l1 ++ rest).any fun x => x.1 == i) && (((pinReach ops).getD j 0) == 0) && (match ops[j]? with | some o => o.after.all fun e => !Region.binds .any e | none => false) &&
  (rest.all fun x => pinPair (pinReach ops) ops (j, .loud) x) && (l1.all fun x => x.1 != j && (x.2 == .loud || pinPair (pinReach ops) ops x (j, .loud)))

theorem wp_region_fl {id : Nat} {Q : Exit → Act → World → Prop} {a : Act} {w : World} {l : List Oper} (j : Nat) (l1 rest : List (Nat × PinKind)) (hm : P.follows .mixedOrders = true) (hB : flB l.toArray j l1 rest = true)
    (S C : World → Prop) (hC : C { w with drawn := w.drawn + 1 }) (hCS : ∀ W, C W → S W) (h : wpFl P l.toArray S (NoPanic Q) j rest l1 C a) : (Code.region id l.toArray true).wp P Q a w := by
  refine wp_region_noPanic (wp_region_any hm ?_)
  simp only [flB, Bool.and_eq_true, beq_iff_eq] at hB
  obtain ⟨⟨⟨⟨⟨⟨⟨⟨h1, h2⟩, h3⟩, h4⟩, h5⟩, h6⟩, h7⟩, h8⟩, h9⟩ := hB
  cases hj : l.toArray[j]? with
  | none => rw [hj] at h7; cases h7
  | some oj =>
    rw [hj] at h7
    rw [← h4]
    refine wpAny_of_fl (oj := oj) h2 hj h6 (fun e he => by simpa using Array.all_eq_true_iff_forall_mem.1 h7 e he) (Region.noSelect_spec h1) (fun c a w hq => hq) (fun x hx => List.all_eq_true.1 h8 x hx) _ l1 _ C a _ rfl (pinPairs_sub h3)
      (fun x hx => by
        have := List.all_eq_true.1 h9 x hx
        simp only [Bool.and_eq_true, bne_iff_ne, Bool.or_eq_true, beq_iff_eq] at this
        exact this) (by simp [h4]) ?_ ?_ hC hCS h
    · intro m hm'
      have hr : (Array.replicate (l1.length + rest.length + 1) false).getD m true = false := by
        have hj' : m < l1.length + rest.length + 1 := by omega
        simp [hj']
      refine ⟨fun _ => ?_, fun _ => hr⟩
      have := List.all_eq_true.1 h5 m (List.mem_range.2 hm')
      simp only [Bool.or_eq_true, beq_iff_eq] at this
      rcases this with this | this
      · exact .inl this
      · obtain ⟨x, hx, hxe⟩ := List.any_eq_true.1 this
        exact .inr ⟨x.2, by have : x.1 = m := by simpa using hxe
                            subst this; exact hx⟩
    · intro m hm'
      rw [show (Array.replicate (l1.length + rest.length + 1) false).getD m false = false from by by_cases hlt : m < l1.length + rest.length + 1 <;> simp [hlt]] at hm'
      cases hm'

/-- free ones fs, the call c, free ones ms; j anywhere ahead of the loud ls -/
theorem wp_region_float {id : Nat} {Q : Exit → Act → World → Prop} {a : Act} {w : World} {l : List Oper} (fs ms ls : List Nat) (c j : Nat) {oc : Oper} (hc : l[c]? = some oc) (hm : P.follows .mixedOrders = true)
    (hB : (flB l.toArray j (fs.map (kindIx l.toArray) ++ ((c, .loud) :: ms.map (kindIx l.toArray))) (ls.map fun i => (i, .loud)) && picksAll l fs && picksAll l ms && ((pickOps l fs).all fun o => freeKind o.op) && (pickOps l ms).all fun o => freeKind o.op) = true)
    (S : World → Prop) (hS : S w.drew)
    (h : wpQuiet P l.toArray S (fun a' => wpPin P l.toArray S (NoPanic Q) ((j, .loud) :: (c, .loud) :: (ms.map (kindIx l.toArray) ++ ls.map fun i => (i, .loud))) (fun W => W = w.drew) a' ∧
      ∀ W, W = w.drew → wpList P l.toArray (FlOn P l.toArray S (NoPanic Q) j (ls.map fun i => (i, .loud)) (ms.map (kindIx l.toArray))) [oc] a' W) (pickOps l fs) a) :
    (Code.region id l.toArray true).wp P Q a w := by
  simp only [Bool.and_eq_true] at hB
  obtain ⟨⟨⟨⟨hB, hfs⟩, hms⟩, hk⟩, hk2⟩ := hB
  have h0 : l.toArray[c]? = some oc := by simpa using hc
  refine wp_region_fl j _ _ hm hB S (fun W => W = w.drew) rfl (fun W hW => by rw [hW]; exact hS) (wpFl_freeIx hS fs (pickOps l fs) (pickOps_spec hfs) hk ?_)
  exact wpQuiet_imp _ _ _ _ (fun a' h' => wpFl_loud oc h0 h'.1 h'.2) h
/-- behind the call: the free ones ms -/
theorem wpFl_ms {Q : Exit → Act → World → Prop} {l : List Oper} {j : Nat} {rest : List (Nat × PinKind)} {C : World → Prop} {a : Act} {W0 : World} (hS : S W0) (ms : List Nat) (hb : (picksAll l ms && (pickOps l ms).all fun o => freeKind o.op) = true)
    (h : wpQuiet P l.toArray S (fun a' => wpPin P l.toArray S Q ((j, .loud) :: rest) C a') (pickOps l ms) a) : wpFl P l.toArray S Q j rest (ms.map (kindIx l.toArray)) C a := by
  simp only [Bool.and_eq_true] at hb
  have := wpFl_freeIx (P := P) (ops := l.toArray) (Q := Q) (j := j) (rest := rest) (l1 := []) (C := C) hS ms (pickOps l ms) (a := a) (pickOps_spec hb.1) hb.2 h
  simpa using this
theorem wpPin_ms {Q : Exit → Act → World → Prop} {l : List Oper} {rest : List (Nat × PinKind)} {C : World → Prop} {a : Act} {W0 : World} (hS : S W0) (ms : List Nat) (hb : (picksAll l ms && (pickOps l ms).all fun o => freeKind o.op) = true)
    (h : wpQuiet P l.toArray S (fun a' => wpPin P l.toArray S Q rest C a') (pickOps l ms) a) : wpPin P l.toArray S Q (ms.map (kindIx l.toArray) ++ rest) C a := by
  simp only [Bool.and_eq_true] at hb
  exact wpPin_freeIx hS ms (pickOps l ms) (pickOps_spec hb.1) hb.2 h
end
end Go.Proofs.Ytkmjehodmfnihaa
