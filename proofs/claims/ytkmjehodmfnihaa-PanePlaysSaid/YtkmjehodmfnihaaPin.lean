/-
  A region whose order is open, walked once: in an order of one's own choice, operation by operation, each free (it yields one value in every world that meets S, which holds throughout), still (in a class of worlds), or loud (any other).
  Conditions: the order is one that the edges allow, and a loud operation is ordered, by the edges, against whatever is not free.
-/
import Derived.Deep.Quiet
import Derived.Deep.RegionHeld3
import Derived.OrdersHeld
import Derived.Laws.Sem
import Derived.KernelRfl
set_option linter.unusedSimpArgs false
set_option linter.unusedVariables false
namespace Go.Proofs.Ytkmjehodmfnihaa
open Go

/-- copy: in every world; free: in every world that meets S; still: in the class; loud: anything else; turn: loud, behind all that is free, so that S may fall -/
inductive PinKind where
  | copy | free | still | loud | turn
  deriving DecidableEq

section
variable {P : Program} {ops : Array Oper} {S : World → Prop}

def wpPin (P : Program) (ops : Array Oper) : (World → Prop) → (Exit → Act → World → Prop) → List (Nat × PinKind) → (World → Prop) → Act → Prop
  | _, Q, [], C, a => ∀ W, C W → Q .normal a W
  | S, Q, (i, k) :: rest, C, a =>
    match ops[i]? with
    | none => False
    | some o =>
      match k with
      | .copy => ∃ v, YieldsIf P ops (fun _ => True) o v a ∧ wpPin P ops S Q rest C (a.put o.dst v)
      | .free => ∃ v, YieldsIf P ops S o v a ∧ wpPin P ops S Q rest C (a.put o.dst v)
      | .still => ∃ v, YieldsIn P ops C o v a ∧ wpPin P ops S Q rest C (a.put o.dst v)
      | .loud => ∀ W, C W → wpOp P ops Q i (fun a' W' => ∃ C' : World → Prop, C' W' ∧ (∀ W, C' W → S W) ∧ wpPin P ops S Q rest C' a') a W
      | .turn => ∀ W, C W → wpOp P ops Q i (fun a' W' => wpPin P ops (fun _ => True) Q rest (fun W => W = W') a') a W

/-- what operation j waits for, by its edges, at whatever remove -/
def pinFold (B : Array Nat) (o : Oper) : Nat := o.after.foldl (fun s e => if Region.binds .any e then s ||| (2 ^ e.on ||| B.getD e.on 0) else s) 0
def pinReach (ops : Array Oper) : Array Nat := ops.foldl (fun B o => B.push (pinFold B o)) #[]
def pinFit (B : Array Nat) (ops : Array Oper) : Bool := (List.range ops.size).all fun j => match ops[j]? with
  | some o => B.getD j 0 == pinFold B o && o.after.all fun e => !Region.binds .any e || decide (e.on < j)
  | none => false
/-- x stands ahead of y -/
def pinPair (B : Array Nat) (ops : Array Oper) (x y : Nat × PinKind) : Bool :=
  match ops[x.1]?, ops[y.1]? with
  | some ox, some oy =>
    x.1 != y.1 && !(ox.after.any fun e => Region.binds .any e && e.on == y.1) &&
    ((B.getD y.1 0).testBit x.1 || (ox.apart ops oy && x.2 != .loud && x.2 != .turn && (y.2 != .loud || x.2 == .free || x.2 == .copy) && (y.2 != .turn || x.2 == .copy)))
  | _, _ => false
def pinPairs (B : Array Nat) (ops : Array Oper) : List (Nat × PinKind) → Bool
  | [] => true
  | x :: l => l.all (pinPair B ops x) && pinPairs B ops l
def pinB (ops : Array Oper) (s : List (Nat × PinKind)) : Bool :=
  Region.noSelect ops && pinFit (pinReach ops) ops && pinPairs (pinReach ops) ops s && (s.length == ops.size) &&
  (List.range ops.size).all fun i => s.any fun x => x.1 == i

theorem pinFold_spec (B : Array Nat) (o : Oper) (i : Nat) (h : (pinFold B o).testBit i = true) : ∃ e ∈ o.after, Region.binds .any e = true ∧ (e.on = i ∨ (B.getD e.on 0).testBit i = true) := by
  unfold pinFold at h
  rw [← Array.foldl_toList] at h
  have key : ∀ (l : List Edge) (s : Nat), (l.foldl (fun s e => if Region.binds .any e then s ||| (2 ^ e.on ||| B.getD e.on 0) else s) s).testBit i = true →
      s.testBit i = true ∨ ∃ e ∈ l, Region.binds .any e = true ∧ (e.on = i ∨ (B.getD e.on 0).testBit i = true) := by
    intro l
    induction l with
    | nil => intro s h; exact .inl h
    | cons e l ih =>
      intro s h
      rw [List.foldl_cons] at h
      rcases ih _ h with h1 | ⟨e', he', h2⟩
      · by_cases hb : Region.binds .any e = true
        · rw [if_pos hb, Nat.testBit_or, Nat.testBit_or, Bool.or_eq_true, Bool.or_eq_true] at h1
          rcases h1 with h1 | h1 | h1
          · exact .inl h1
          · refine .inr ⟨e, by simp, hb, .inl ?_⟩
            rw [Nat.testBit_two_pow] at h1
            simpa using h1
          · exact .inr ⟨e, by simp, hb, .inr h1⟩
        · rw [if_neg hb] at h1; exact .inl h1
      · exact .inr ⟨e', by simp [he'], h2⟩
  rcases key _ _ h with h1 | ⟨e, he, h2⟩
  · simp at h1
  · exact ⟨e, by simpa using he, h2⟩

/-- what has been carried out holds all that it waited for -/
def PinShut (B : Array Nat) (listed : Array Bool) : Prop := ∀ j, listed.getD j false = true → ∀ i, (B.getD j 0).testBit i = true → listed.getD i false = true

theorem pinFit_spec {B : Array Nat} (h : pinFit B ops = true) {j : Nat} {o : Oper} (hj : ops[j]? = some o) :
    B.getD j 0 = pinFold B o ∧ ∀ e ∈ o.after, Region.binds .any e = true → e.on < j := by
  unfold pinFit at h
  have hlt : j < ops.size := (Array.getElem?_eq_some_iff.1 hj).1
  have h1 := List.all_eq_true.1 h j (List.mem_range.2 hlt)
  simp only [hj, Bool.and_eq_true, beq_iff_eq] at h1
  refine ⟨h1.1, fun e he hb => ?_⟩
  have h2 := Array.all_eq_true_iff_forall_mem.1 h1.2 e he
  simpa [hb] using h2

theorem ready_reach {B : Array Nat} (hf : pinFit B ops = true) {listed : Array Bool} (hs : PinShut B listed) {i : Nat} (hi : i ∈ Region.ready .any ops listed) (x : Nat) (hx : (B.getD i 0).testBit x = true) : listed.getD x false = true := by
  obtain ⟨h0, o, ho, hall⟩ := mem_ready.1 hi
  rw [(pinFit_spec hf ho).1] at hx
  obtain ⟨e, he, hb, h | h⟩ := pinFold_spec _ _ _ hx
  · rw [← h]; exact hall e he hb
  · exact hs _ (hall e he hb) _ h

theorem getD_two {listed : Array Bool} {i : Nat} (h : listed.getD i true = false) : listed.getD i false = false := by
  rcases Nat.lt_or_ge i listed.size with h' | h'
  · simp [h'] at h ⊢; exact h
  · simp [Array.getElem?_eq_none h'] at h

theorem PinShut.set {B : Array Nat} (hf : pinFit B ops = true) {listed : Array Bool} (hs : PinShut B listed) {i : Nat} (hi : i ∈ Region.ready .any ops listed) : PinShut B (listed.setIfInBounds i true) := by
  intro j hj x hx
  by_cases hij : i = j
  · subst hij; exact getD_set_true (ready_reach hf hs hi x hx)
  · rw [getD_set_ne false hij] at hj
    exact getD_set_true (hs j hj x hx)

theorem pinPair_spec {B : Array Nat} {x y : Nat × PinKind} (h : pinPair B ops x y = true) : ∃ ox oy, ops[x.1]? = some ox ∧ ops[y.1]? = some oy ∧ x.1 ≠ y.1 ∧ (∀ e ∈ ox.after, Region.binds .any e = true → e.on ≠ y.1) ∧
    ((B.getD y.1 0).testBit x.1 = true ∨ (ox.apart ops oy = true ∧ x.2 ≠ .loud ∧ x.2 ≠ .turn ∧ (y.2 = .loud → x.2 = .free ∨ x.2 = .copy) ∧ (y.2 = .turn → x.2 = .copy))) := by
  unfold pinPair at h
  split at h
  · rename_i ox oy hx hy
    refine ⟨ox, oy, hx, hy, ?_⟩
    simp only [Bool.and_eq_true, bne_iff_ne, Bool.not_eq_true', Bool.or_eq_true, beq_iff_eq] at h
    refine ⟨h.1.1, fun e he hb hon => ?_, ?_⟩
    · have := h.1.2
      rw [Array.any_eq_false'] at this
      have := this e he
      simp [hb, hon] at this
    · rcases h.2 with h2 | h2
      · exact .inl h2
      · refine .inr ⟨h2.1.1.1.1, h2.1.1.1.2, h2.1.1.2, fun hl => ?_, fun hl => ?_⟩
        · rcases h2.1.2 with h3 | h3
          · rcases h3 with h3 | h3
            · exact absurd hl h3
            · exact .inl h3
          · exact .inr h3
        · rcases h2.2 with h3 | h3
          · exact absurd hl h3
          · exact h3
  · cases h

/-- what a quiet kind says -/
def KindSays (P : Program) (ops : Array Oper) (S C : World → Prop) (k : PinKind) (o : Oper) (v : Value) (a : Act) : Prop :=
  match k with
  | .copy => YieldsIf P ops (fun _ => True) o v a
  | .free => YieldsIf P ops S o v a
  | _ => YieldsIn P ops C o v a
theorem KindSays.of_same {C : World → Prop} {k : PinKind} {o : Oper} {v : Value} {a a' : Act} (h : KindSays P ops S C k o v a) (e1 : execOp a'.eval o = execOp a.eval o) (e2 : Region.wanted o (yielded ops a'.tmps) = Region.wanted o (yielded ops a.tmps)) : KindSays P ops S C k o v a' := by
  cases k
  · exact YieldsIf.of_same h e1 e2
  · exact YieldsIf.of_same h e1 e2
  all_goals exact YieldsIn.of_same h e1 e2

/-- a quiet operation that comes up is carried out first -/
theorem pull_still {Q : Exit → Act → World → Prop} {B : Array Nat} {i : Nat} {oi : Oper} {k : PinKind} (hi : ops[i]? = some oi) (hsel : ∀ (j : Nat) (o : Oper) cs b, ops[j]? = some o → o.op ≠ .select cs b) (hk : k ≠ .loud) (hk' : k ≠ .turn) :
    ∀ (l1 l2 : List (Nat × PinKind)) (C : World → Prop) (a : Act), (∀ x ∈ l1, pinPair B ops x (i, k) = true ∧ (B.getD i 0).testBit x.1 = false) → wpPin P ops S Q (l1 ++ (i, k) :: l2) C a →
      ∃ v, KindSays P ops S C k oi v a ∧ wpPin P ops S Q (l1 ++ l2) C (a.put oi.dst v) := by
  intro l1
  induction l1 with
  | nil =>
    intro l2 C a _ h
    simp only [List.nil_append, wpPin, hi] at h
    cases k with
    | loud => exact absurd rfl hk
    | turn => exact absurd rfl hk'
    | _ => exact h
  | cons x l1 ih =>
    intro l2 C a hx h
    obtain ⟨x, kx⟩ := x
    obtain ⟨hp, hb⟩ := hx (x, kx) (by simp)
    obtain ⟨ox, oy, hox, hoy, hne, _, hor⟩ := pinPair_spec hp
    simp only at hox hoy hb
    rw [hi] at hoy
    obtain rfl := Option.some.inj hoy
    rcases hor with hor | ⟨hap, hnl, hnt, _⟩
    · simp only at hor; rw [hb] at hor; cases hor
    simp only [List.cons_append, wpPin, hox] at h ⊢
    obtain ⟨a1, a2, a3⟩ := Oper.apart_spec hap
    have hsx := fun cs b => hsel x ox cs b hox
    have hsi := fun cs b => hsel i oi cs b hi
    have ih' := fun C a h => ih l2 C a (fun z hz => hx z (List.mem_cons_of_mem _ hz)) h
    cases kx with
    | loud => exact absurd rfl hnl
    | turn => exact absurd rfl hnt
    | copy =>
      obtain ⟨vx, hyx, h⟩ := h
      obtain ⟨v, hyi, h⟩ := ih' _ _ h
      have e1 := execOp_put (ops := ops) oi hsi a ox.dst vx a1
      have e2 := wanted_put (ops := ops) oi a ox.dst vx a1
      refine ⟨v, hyi.of_same e1.symm e2.symm, vx, hyx.of_same (execOp_put ox hsx a oi.dst v a3) (wanted_put ox a oi.dst v a3), ?_⟩
      rw [← Act.put_comm a vx v a2]; exact h
    | free =>
      obtain ⟨vx, hyx, h⟩ := h
      obtain ⟨v, hyi, h⟩ := ih' _ _ h
      have e1 := execOp_put (ops := ops) oi hsi a ox.dst vx a1
      have e2 := wanted_put (ops := ops) oi a ox.dst vx a1
      refine ⟨v, hyi.of_same e1.symm e2.symm, vx, hyx.of_same (execOp_put ox hsx a oi.dst v a3) (wanted_put ox a oi.dst v a3), ?_⟩
      rw [← Act.put_comm a vx v a2]; exact h
    | still =>
      obtain ⟨vx, hyx, h⟩ := h
      obtain ⟨v, hyi, h⟩ := ih' _ _ h
      have e1 := execOp_put (ops := ops) oi hsi a ox.dst vx a1
      have e2 := wanted_put (ops := ops) oi a ox.dst vx a1
      refine ⟨v, hyi.of_same e1.symm e2.symm, vx, hyx.of_same (execOp_put ox hsx a oi.dst v a3) (wanted_put ox a oi.dst v a3), ?_⟩
      rw [← Act.put_comm a vx v a2]; exact h

/-- a loud operation that comes up: what stands ahead of it is free -/
theorem pull_loud {Q : Exit → Act → World → Prop} {B : Array Nat} {i : Nat} {oi : Oper} (hi : ops[i]? = some oi) (hsel : ∀ (j : Nat) (o : Oper) cs b, ops[j]? = some o → o.op ≠ .select cs b)
    (hQ : ∀ c a w, ¬ Q (.panic c) a w) :
    ∀ (l1 l2 : List (Nat × PinKind)) (C : World → Prop) (a : Act), (∀ x ∈ l1, pinPair B ops x (i, .loud) = true ∧ (B.getD i 0).testBit x.1 = false) → wpPin P ops S Q (l1 ++ (i, .loud) :: l2) C a →
      ∀ W, C W → wpOp P ops Q i (fun a' W' => ∃ C' : World → Prop, C' W' ∧ (∀ W, C' W → S W) ∧ wpPin P ops S Q (l1 ++ l2) C' a') a W := by
  intro l1
  induction l1 with
  | nil =>
    intro l2 C a _ h W hW
    simp only [List.nil_append, wpPin, hi] at h
    exact h W hW
  | cons x l1 ih =>
    intro l2 C a hx h W hW
    obtain ⟨x, kx⟩ := x
    obtain ⟨hp, hb⟩ := hx (x, kx) (by simp)
    obtain ⟨ox, oy, hox, hoy, hne, _, hor⟩ := pinPair_spec hp
    simp only at hox hoy hb
    rw [hi] at hoy
    obtain rfl := Option.some.inj hoy
    rcases hor with hor | ⟨hap, hnl, hnt, hfr, _⟩
    · simp only at hor; rw [hb] at hor; cases hor
    have hfr := hfr rfl
    simp only [List.cons_append, wpPin, hox] at h ⊢
    cases kx with
    | loud => exact absurd rfl hnl
    | turn => exact absurd rfl hnt
    | still => rcases hfr with hfr | hfr <;> cases hfr
    | free =>
      obtain ⟨vx, hyx, h⟩ := h
      have h1 := ih l2 C _ (fun z hz => hx z (List.mem_cons_of_mem _ hz)) h W hW
      have h2 := wpOp_putIf (Q := Q) hi hap (fun cs b => hsel x ox cs b hox) (fun cs b => hsel i oi cs b hi) (fun c a w hq => absurd hq (hQ _ _ _)) hyx h1
      exact wpOp_mono (fun a' W' ⟨hy, C', hC', hCS, hr⟩ => ⟨C', hC', hCS, vx, hy, hr⟩) h2
    | copy =>
      obtain ⟨vx, hyx, h⟩ := h
      have h1 := ih l2 C _ (fun z hz => hx z (List.mem_cons_of_mem _ hz)) h W hW
      have h2 := wpOp_putIf (Q := Q) hi hap (fun cs b => hsel x ox cs b hox) (fun cs b => hsel i oi cs b hi) (fun c a w hq => absurd hq (hQ _ _ _)) hyx h1
      exact wpOp_mono (fun a' W' ⟨hy, C', hC', hCS, hr⟩ => ⟨C', hC', hCS, vx, hy, hr⟩) h2

/-- a turn that comes up: what stands ahead of it are copies -/
theorem pull_turn {Q : Exit → Act → World → Prop} {B : Array Nat} {i : Nat} {oi : Oper} (hi : ops[i]? = some oi) (hsel : ∀ (j : Nat) (o : Oper) cs b, ops[j]? = some o → o.op ≠ .select cs b)
    (hQ : ∀ c a w, ¬ Q (.panic c) a w) :
    ∀ (l1 l2 : List (Nat × PinKind)) (C : World → Prop) (a : Act), (∀ x ∈ l1, pinPair B ops x (i, .turn) = true ∧ (B.getD i 0).testBit x.1 = false) → wpPin P ops S Q (l1 ++ (i, .turn) :: l2) C a →
      ∀ W, C W → wpOp P ops Q i (fun a' W' => wpPin P ops (fun _ => True) Q (l1 ++ l2) (fun W => W = W') a') a W := by
  intro l1
  induction l1 with
  | nil =>
    intro l2 C a _ h W hW
    simp only [List.nil_append, wpPin, hi] at h
    exact h W hW
  | cons x l1 ih =>
    intro l2 C a hx h W hW
    obtain ⟨x, kx⟩ := x
    obtain ⟨hp, hb⟩ := hx (x, kx) (by simp)
    obtain ⟨ox, oy, hox, hoy, hne, _, hor⟩ := pinPair_spec hp
    simp only at hox hoy hb
    rw [hi] at hoy
    obtain rfl := Option.some.inj hoy
    rcases hor with hor | ⟨hap, hnl, hnt, _, hfr⟩
    · simp only at hor; rw [hb] at hor; cases hor
    obtain rfl : kx = .copy := hfr rfl
    simp only [List.cons_append, wpPin, hox] at h ⊢
    obtain ⟨vx, hyx, h⟩ := h
    have h1 := ih l2 C _ (fun z hz => hx z (List.mem_cons_of_mem _ hz)) h W hW
    have h2 := wpOp_putIf (Q := Q) hi hap (fun cs b => hsel x ox cs b hox) (fun cs b => hsel i oi cs b hi) (fun c a w hq => absurd hq (hQ _ _ _)) hyx h1
    exact wpOp_mono (fun a' W' ⟨hy, hr⟩ => ⟨vx, hy, hr⟩) h2

theorem pinPairs_sub {B : Array Nat} : ∀ {l : List (Nat × PinKind)}, pinPairs B ops l = true → l.Pairwise fun x y => pinPair B ops x y = true
  | [], _ => List.Pairwise.nil
  | x :: l, h => by
    simp only [pinPairs, Bool.and_eq_true, List.all_eq_true] at h
    exact List.Pairwise.cons (fun y hy => h.1 y hy) (pinPairs_sub h.2)

theorem wpAny_of_pin {Q : Exit → Act → World → Prop} {B : Array Nat} (hf : pinFit B ops = true) (hsel : ∀ (j : Nat) (o : Oper) cs b, ops[j]? = some o → o.op ≠ .select cs b) (hQ : ∀ c a w, ¬ Q (.panic c) a w) :
    ∀ (n : Nat) (l : List (Nat × PinKind)) (listed : Array Bool) (S C : World → Prop) (a : Act) (W : World), l.length = n → l.Pairwise (fun x y => pinPair B ops x y = true) →
      listed.size = ops.size → (∀ j, j < ops.size → (listed.getD j true = false ↔ ∃ k, (j, k) ∈ l)) → PinShut B listed → C W → (∀ W, C W → S W) → wpPin P ops S Q l C a → wpAny P .any ops Q n listed a W := by
  intro n
  induction n with
  | zero =>
    intro l listed S C a W hl hp hz hun hs hC hCS h
    obtain rfl : l = [] := List.length_eq_zero_iff.1 hl
    refine ⟨?_, h W hC⟩
    refine List.eq_nil_iff_forall_not_mem.2 fun i hi => ?_
    obtain ⟨h0, o, ho, _⟩ := mem_ready.1 hi
    obtain ⟨k, hk⟩ := (hun i (Array.getElem?_eq_some_iff.1 ho).1).1 h0
    cases hk
  | succ n ih =>
    intro l listed S C a W hl hp hz hun hs hC hCS h
    constructor
    · intro hr
      exfalso
      match l, hl with
      | (x, k) :: l', hl =>
        have hox : ∃ ox, ops[x]? = some ox := by
          simp only [wpPin] at h
          cases hx : ops[x]? with
          | none => simp only [hx] at h
          | some o => exact ⟨o, rfl⟩
        obtain ⟨ox, hox⟩ := hox
        have hlt : x < ops.size := (Array.getElem?_eq_some_iff.1 hox).1
        have : x ∈ Region.ready .any ops listed := by
          refine mem_ready.2 ⟨(hun x hlt).2 ⟨k, by simp⟩, ox, hox, fun e he hb => ?_⟩
          have hlt0 := (pinFit_spec hf hox).2 e he hb
          have hlt' : e.on < ops.size := by omega
          cases hd : listed.getD e.on true with
          | true =>
            have h' : e.on < listed.size := by omega
            simp [h'] at hd ⊢
            exact hd
          | false =>
            exfalso
            obtain ⟨k', hk'⟩ := (hun e.on hlt').1 hd
            rcases List.mem_cons.1 hk' with h1 | h1
            · have hxe : e.on = x := by injection h1
              omega
            · obtain ⟨ox', _, hox', _, _, hno, _⟩ := pinPair_spec (List.rel_of_pairwise_cons hp h1)
              simp only at hox' hno
              rw [hox] at hox'
              obtain rfl := Option.some.inj hox'
              exact hno e he hb rfl
        rw [hr] at this
        cases this
    · intro i hi
      obtain ⟨h0, oi, hoi, hall⟩ := mem_ready.1 hi
      have hlt : i < ops.size := (Array.getElem?_eq_some_iff.1 hoi).1
      obtain ⟨k, hk⟩ := (hun i hlt).1 h0
      obtain ⟨l1, l2, rfl⟩ := List.append_of_mem hk
      have hpw := List.pairwise_append.1 hp
      have hx : ∀ x ∈ l1, pinPair B ops x (i, k) = true ∧ (B.getD i 0).testBit x.1 = false := by
        intro x hx
        have hpx := hpw.2.2 x hx (i, k) (by simp)
        refine ⟨hpx, ?_⟩
        cases hb : (B.getD i 0).testBit x.1 with
        | false => rfl
        | true =>
          exfalso
          have hl' := ready_reach hf hs hi x.1 hb
          obtain ⟨ox, _, hox, _⟩ := pinPair_spec hpx
          have := (hun x.1 (Array.getElem?_eq_some_iff.1 hox).1).2 ⟨x.2, by simp [hx]⟩
          have := getD_two this
          rw [hl'] at this
          cases this
      have hp2 : (l1 ++ l2).Pairwise (fun x y => pinPair B ops x y = true) := by
        refine List.pairwise_append.2 ⟨hpw.1, (List.pairwise_cons.1 hpw.2.1).2, fun x hx y hy => hpw.2.2 x hx y (List.mem_cons_of_mem _ hy)⟩
      have hne1 : ∀ x ∈ l1 ++ l2, x.1 ≠ i := by
        intro x hx hxi
        rcases List.mem_append.1 hx with h1 | h1
        · obtain ⟨_, _, _, _, hne, _⟩ := pinPair_spec (hpw.2.2 x h1 (i, k) (by simp))
          exact hne hxi
        · obtain ⟨_, _, _, _, hne, _⟩ := pinPair_spec (List.rel_of_pairwise_cons hpw.2.1 h1)
          exact hne hxi.symm
      have hun2 : ∀ j, j < ops.size → ((listed.setIfInBounds i true).getD j true = false ↔ ∃ k', (j, k') ∈ l1 ++ l2) := by
        intro j hj
        by_cases hij : i = j
        · subst hij
          have : (listed.setIfInBounds i true).getD i true = true := by
            have h' : i < listed.size := by omega
            simp [h']
          rw [this]
          exact ⟨fun h => Bool.noConfusion h, fun ⟨k', hk'⟩ => absurd rfl (hne1 _ hk')⟩
        · rw [getD_set_ne true hij, hun j hj]
          constructor
          · rintro ⟨k', hk'⟩
            refine ⟨k', ?_⟩
            rcases List.mem_append.1 hk' with h1 | h1
            · exact List.mem_append_left _ h1
            · rcases List.mem_cons.1 h1 with h2 | h2
              · injection h2 with h3 _; exact absurd h3.symm hij
              · exact List.mem_append_right _ h2
          · rintro ⟨k', hk'⟩
            refine ⟨k', ?_⟩
            rcases List.mem_append.1 hk' with h1 | h1
            · exact List.mem_append_left _ h1
            · exact List.mem_append_right _ (List.mem_cons_of_mem _ h1)
      have hlen : (l1 ++ l2).length = n := by simp at hl ⊢; omega
      have fin : ∀ S' C' a' W', C' W' → (∀ W, C' W → S' W) → wpPin P ops S' Q (l1 ++ l2) C' a' → wpAny P .any ops Q n (listed.setIfInBounds i true) a' W' := fun S' C' a' W' hC' hCS' h' =>
        ih (l1 ++ l2) _ S' C' a' W' hlen hp2 (by simpa using hz) hun2 (hs.set hf hi) hC' hCS' h'
      cases k with
      | copy =>
        obtain ⟨v, hy, h'⟩ := pull_still hoi hsel (by simp) (by simp) l1 l2 C a hx h
        exact YieldsIf.wpOp hoi hy trivial (fin _ _ _ _ hC hCS h')
      | free =>
        obtain ⟨v, hy, h'⟩ := pull_still hoi hsel (by simp) (by simp) l1 l2 C a hx h
        exact YieldsIf.wpOp hoi hy (hCS W hC) (fin _ _ _ _ hC hCS h')
      | still =>
        obtain ⟨v, hy, h'⟩ := pull_still hoi hsel (by simp) (by simp) l1 l2 C a hx h
        exact wpOp_of_qOp (C := C) hC (fun a' w' hw' hr => fin _ C a' w' hw' hCS hr) (YieldsIn.qOp (K := fun a' => wpPin P ops S Q (l1 ++ l2) C a') hoi hy h')
      | loud =>
        exact wpOp_mono (fun a' W' ⟨C', hC', hCS', h'⟩ => fin _ C' a' W' hC' hCS' h') (pull_loud hoi hsel hQ l1 l2 C a hx h W hC)
      | turn =>
        exact wpOp_mono (fun a' W' h' => fin (fun _ => True) (fun W => W = W') a' W' rfl (fun _ _ => trivial) h') (pull_turn hoi hsel hQ l1 l2 C a hx h W hC)

/-- A region whose order is open, in an order of one's own choice. -/
theorem wp_region_pin {id : Nat} {Q : Exit → Act → World → Prop} {a : Act} {w : World} {l : List Oper} (s : List (Nat × PinKind)) (hm : P.follows .mixedOrders = true) (hB : pinB l.toArray s = true)
    (S C : World → Prop) (hC : C { w with drawn := w.drawn + 1 }) (hCS : ∀ W, C W → S W) (h : wpPin P l.toArray S (NoPanic Q) s C a) : (Code.region id l.toArray true).wp P Q a w := by
  refine wp_region_noPanic (wp_region_any hm ?_)
  simp only [pinB, Bool.and_eq_true, beq_iff_eq] at hB
  obtain ⟨⟨⟨⟨h1, h2⟩, h3⟩, h4⟩, h5⟩ := hB
  rw [← h4]
  refine wpAny_of_pin h2 (Region.noSelect_spec h1) (fun c a w hq => hq) s.length s _ S C a _ rfl (pinPairs_sub h3) (by simp [h4]) ?_ ?_ hC hCS h
  · intro j hj
    have hr : (Array.replicate s.length false).getD j true = false := by
      have hj' : j < s.length := by omega
      simp [hj']
    refine ⟨fun _ => ?_, fun _ => hr⟩
    have := List.all_eq_true.1 h5 j (List.mem_range.2 hj)
    obtain ⟨x, hx, hxe⟩ := List.any_eq_true.1 this
    exact ⟨x.2, by have : x.1 = j := by simpa using hxe
                   subst this; exact hx⟩
  · intro j hj
    rw [show (Array.replicate s.length false).getD j false = false from by by_cases hlt : j < s.length <;> simp [hlt]] at hj
    cases hj

/-- what comes behind a loud operation -/
def PinOn (P : Program) (ops : Array Oper) (S : World → Prop) (Q : Exit → Act → World → Prop) (rest : List (Nat × PinKind)) : Exit → Act → World → Prop
  | .normal, a', W' => ∃ C' : World → Prop, C' W' ∧ (∀ W, C' W → S W) ∧ wpPin P ops S Q rest C' a'
  | e, a', W' => Q e a' W'
/-- still operations in a row -/
theorem wpPin_still {Q : Exit → Act → World → Prop} {i : Nat} {o : Oper} {rest : List (Nat × PinKind)} {C : World → Prop} {a : Act} (hi : ops[i]? = some o) (h : wpQuiet P ops C (fun a' => wpPin P ops S Q rest C a') [o] a) : wpPin P ops S Q ((i, .still) :: rest) C a := by
  simp only [wpPin, hi]
  exact yieldsIn_of_qOp hi (by unfold qOp; simp only [hi]; simpa [wpQuiet] using h)
/-- a run of still operations, the rest behind them -/
theorem wpPin_stills {Q : Exit → Act → World → Prop} {rest : List (Nat × PinKind)} {C : World → Prop} (is : List Nat) : ∀ (l : List Oper) {a : Act}, is.map (fun i => ops[i]?) = l.map some →
    wpQuiet P ops C (fun a' => wpPin P ops S Q rest C a') l a → wpPin P ops S Q (is.map (fun i => (i, .still)) ++ rest) C a := by
  induction is with
  | nil =>
    intro l a hl h
    cases l with
    | nil => exact h
    | cons o l => cases hl
  | cons i is ih =>
    intro l a hl h
    cases l with
    | nil => cases hl
    | cons o l =>
      simp only [List.map_cons, List.cons.injEq] at hl
      have h1 : qOp P ops C i (wpQuiet P ops C (fun a' => wpPin P ops S Q rest C a') l) a := by
        unfold qOp; simp only [hl.1]; exact h
      obtain ⟨v, hy, h2⟩ := yieldsIn_of_qOp hl.1 h1
      simp only [List.map_cons, List.cons_append, wpPin, hl.1]
      exact ⟨v, hy, ih l hl.2 h2⟩

/-- what is left is loud, one behind the other -/
theorem wpPin_louds {Q : Exit → Act → World → Prop} (is : List Nat) : ∀ (l : List Oper) {C : World → Prop} {a : Act}, is.map (fun i => ops[i]?) = l.map some →
    (∀ W, C W → wpList P ops Q l a W) → wpPin P ops (fun _ => True) Q (is.map (fun i => (i, .loud))) C a := by
  induction is with
  | nil =>
    intro l C a hl h
    cases l with
    | nil => exact h
    | cons o l => cases hl
  | cons i is ih =>
    intro l C a hl h
    cases l with
    | nil => cases hl
    | cons o l =>
      simp only [List.map_cons, List.cons.injEq] at hl
      simp only [List.map_cons, wpPin, hl.1]
      intro W hW
      have h1 := h W hW
      have h2 : wpOp P ops Q i (wpList P ops Q l) a W := by unfold wpOp; simp only [hl.1]; exact h1
      exact wpOp_mono (fun a' W' h' => ⟨fun W => W = W', rfl, fun _ _ => trivial, ih l hl.2 (fun W hW => by subst hW; exact h')⟩) h2

def freeKind : Op → Bool
  | .move _ | .assign _ | .load .. | .fieldAddr .. | .field .. | .indexAddr .. | .index .. | .binOp .. | .unOp .. | .convert .. | .slice .. | .extract .. | .makeInterface .. => true
  | .nilCheck _ | .pick .. | .build .. => true
  | _ => false
theorem ends_bind {α : Type} {x : Sem α} {f : α → Sem Next} (hf : ∀ a w n w', (f a).run P w = .ok n w' → ∃ v, n = Next.value v) {w w' : World} {n : Next} (h : (x >>= f).run P w = .ok n w') : ∃ v, n = Next.value v := by
  rw [Sem.run_bind] at h
  cases hr : x.run P w with
  | ok a w1 => rw [hr] at h; exact hf a w1 n w' h
  | halt e w1 => rw [hr] at h; cases h
theorem run_v {α : Type} {s : Sem α} {f : α → Value} {w w' : World} {n : Next} (h : (s.bind fun x => Sem.pure (Next.value (f x))).run P w = .ok n w') : ∃ v, n = .value v :=
  ends_bind (x := s) (f := fun x => Sem.pure (Next.value (f x))) (fun a w n w' h => by injection h with h1; exact ⟨_, h1.symm⟩) h
theorem freeRun {ρ : Operand → Value} {o : Oper} (hk : freeKind o.op = true) {w w' : World} {n : Next} (h : (execOp ρ o).run P w = .ok n w') : ∃ v, n = .value v := by
  obtain ⟨dst, op, type, pos, after, guard⟩ := o
  cases op <;> first | (simp only [freeKind, Bool.false_eq_true] at hk; done) | skip
  case nilCheck x =>
    simp only [execOp] at h
    split at h
    · cases h
    · cases h
    · cases h
    · split at h
      · cases h
      · refine ends_bind (fun a w n w' h => ?_) h
        refine ends_bind (fun a w n w' h => ?_) h
        split at h
        · cases h
        · injection h with h1; exact ⟨_, h1.symm⟩
      · injection h with h1; exact ⟨_, h1.symm⟩
    · injection h with h1; exact ⟨_, h1.symm⟩
  case move x => injection h with h1; exact ⟨_, h1.symm⟩
  case assign x => injection h with h1; exact ⟨_, h1.symm⟩
  all_goals exact run_v h
/-- a run of free operations: each value read in whatever world meets S -/
theorem wpPin_frees {Q : Exit → Act → World → Prop} {rest : List (Nat × PinKind)} {C : World → Prop} (is : List Nat) : ∀ (l : List Oper) {a : Act}, is.map (fun i => ops[i]?) = l.map some → (l.all fun o => freeKind o.op) = true →
    wpQuiet P ops S (fun a' => wpPin P ops S Q rest C a') l a → wpPin P ops S Q (is.map (fun i => (i, .free)) ++ rest) C a := by
  induction is with
  | nil =>
    intro l a hl _ h
    cases l with
    | nil => exact h
    | cons o l => cases hl
  | cons i is ih =>
    intro l a hl hk h
    cases l with
    | nil => cases hl
    | cons o l =>
      simp only [List.map_cons, List.cons.injEq] at hl
      simp only [List.all_cons, Bool.and_eq_true] at hk
      have h1 : qOp P ops S i (wpQuiet P ops S (fun a' => wpPin P ops S Q rest C a') l) a := by
        unfold qOp; simp only [hl.1]; exact h
      obtain ⟨v, hy, h2⟩ := yieldsIn_of_qOp hl.1 h1
      simp only [List.map_cons, List.cons_append, wpPin, hl.1]
      refine ⟨v, ?_, ih l hl.2 hk.2 h2⟩
      rcases hy with ⟨hw, hv⟩ | ⟨hw, rfl⟩
      · refine .inl ⟨hw, fun w hS => ?_⟩
        have h3 := hv w hS
        unfold Oper.quietAt at h3
        cases hr : (execOp a.eval o).run P w with
        | ok n w' =>
          obtain ⟨u, rfl⟩ := freeRun hk.1 hr
          rw [hr] at h3
          obtain ⟨rfl, rfl⟩ := h3
          rfl
        | halt e w' => rw [hr] at h3; exact h3.elim
      · exact .inr ⟨hw, rfl⟩
/-- one loud operation -/
theorem wpPin_loud {Q : Exit → Act → World → Prop} {i : Nat} (o : Oper) {rest : List (Nat × PinKind)} {C : World → Prop} {a : Act} (hi : ops[i]? = some o)
    (h : ∀ W, C W → wpList P ops (PinOn P ops S Q rest) [o] a W) : wpPin P ops S Q ((i, .loud) :: rest) C a := by
  simp only [wpPin, hi]
  intro W hW
  have h1 := h W hW
  unfold wpOp
  simp only [hi]
  simp only [wpList] at h1
  split
  · rename_i hw
    simp only [hw, if_true] at h1
    rcases h1 with h1 | ⟨h1, h2⟩
    · refine .inl ?_
      unfold Oper.wp at *
      generalize (execOp a.eval o).run P W = r at *
      cases r with
      | ok n w' =>
        cases n <;> simp only [Oper.upon] at h1 ⊢ <;>
          first
            | exact h1
            | exact Calls.mono h1 (fun e w'' he => by cases e <;> exact he)
      | halt x w' => cases x <;> simp only [Oper.upon] at h1 ⊢ <;> exact h1
    · exact .inr ⟨h1, h2⟩
  · rename_i hw
    simp only [hw] at h1
    exact h1

/-- a mere copy reads nothing -/
def headKind (o : Oper) : PinKind := match o.op with
  | .move _ => .copy
  | .assign _ => .copy
  | _ => .still
def headS : Nat → List Oper → List (Nat × PinKind)
  | _, [] => []
  | k, o :: l => (k, headKind o) :: headS (k + 1) l
theorem wpPin_heads {Q : Exit → Act → World → Prop} {rest : List (Nat × PinKind)} {C : World → Prop} {W0 : World} (hC : C W0) (l : List Oper) : ∀ (k : Nat) {a : Act}, (∀ j, j < l.length → ops[k + j]? = l[j]?) →
    wpQuiet P ops C (fun a' => wpPin P ops S Q rest C a') l a → wpPin P ops S Q (headS k l ++ rest) C a := by
  induction l with
  | nil => intro k a _ h; exact h
  | cons o l ih =>
    intro k a hl h
    have h0 : ops[k]? = some o := by simpa using hl 0 (by simp)
    have h1 : qOp P ops C k (wpQuiet P ops C (fun a' => wpPin P ops S Q rest C a') l) a := by
      unfold qOp; simp only [h0]; exact h
    obtain ⟨v, hy, h2⟩ := yieldsIn_of_qOp h0 h1
    have h3 := ih (k + 1) (a := a.put o.dst v) (fun j hj => by have := hl (j + 1) (by simp; omega); simpa [Nat.add_assoc, Nat.add_comm 1 j] using this) h2
    simp only [headS, List.cons_append, wpPin, h0]
    have hcopy : ∀ x, (o.op = .move x ∨ o.op = .assign x) → YieldsIf P ops (fun _ => True) o v a := by
      intro x hx
      rcases hy with ⟨hw, hv⟩ | ⟨hw, rfl⟩
      · refine .inl ⟨hw, fun w hS => ?_⟩
        have h4 := hv W0 hC
        have e : ∀ w, (execOp a.eval o).run P w = .ok (.value (a.eval x)) w := by
          intro w
          unfold execOp
          rcases hx with hx | hx <;> simp only [hx] <;> rfl
        unfold Oper.quietAt at h4
        rw [e] at h4
        obtain ⟨_, rfl⟩ := h4
        exact e w
      · exact .inr ⟨hw, rfl⟩
    have hk : (headKind o = .copy ∧ ∃ x, o.op = .move x ∨ o.op = .assign x) ∨ headKind o = .still := by
      unfold headKind
      split
      · rename_i x hx; exact .inl ⟨rfl, x, .inl hx⟩
      · rename_i x hx; exact .inl ⟨rfl, x, .inr hx⟩
      · exact .inr rfl
    rcases hk with ⟨hk, x, hx⟩ | hk
    · rw [hk]; exact ⟨v, hcopy x hx, h3⟩
    · rw [hk]; exact ⟨v, hy, h3⟩

/-- a region's head is still, its tail loud: n operations are still -/
theorem wp_region_head {id : Nat} {Q : Exit → Act → World → Prop} {a : Act} {w : World} {l : List Oper} (n : Nat) (hm : P.follows .mixedOrders = true)
    (hB : pinB l.toArray (headS 0 (l.take n) ++ (List.range' n (l.length - n)).map (fun i => (i, .loud))) = true)
    (C : World → Prop) (hC : C { w with drawn := w.drawn + 1 }) (h : wpQuiet P l.toArray C (fun a' => ∀ W, C W → wpList P l.toArray (NoPanic Q) (l.drop n) a' W) (l.take n) a) (hn : n ≤ l.length) :
    (Code.region id l.toArray true).wp P Q a w := by
  refine wp_region_pin _ hm hB (fun _ => True) C hC (fun _ _ => trivial) (wpPin_heads hC (l.take n) 0 (fun j hj => by simp at hj; simp [List.getElem?_take, hj]) ?_)
  · have key : ∀ (m : List Oper) (Q1 Q2 : Act → Prop) (a : Act), (∀ a, Q1 a → Q2 a) → wpQuiet P l.toArray C Q1 m a → wpQuiet P l.toArray C Q2 m a := by
      intro m
      induction m with
      | nil => intro Q1 Q2 a hq h; exact hq _ h
      | cons o m ih =>
        intro Q1 Q2 a hq h
        simp only [wpQuiet] at h ⊢
        split
        · rename_i hw; simp only [hw, if_true] at h; exact Oper.quiet_mono (fun a h => ih Q1 Q2 a hq h) h
        · rename_i hw; simp only [hw] at h; exact ih Q1 Q2 _ hq h
    refine key _ _ _ _ (fun a' h' => wpPin_louds _ (l.drop n) ?_ h') h
    apply List.ext_getElem?
    intro i
    simp only [List.getElem?_map, List.getElem?_drop]
    by_cases hi : i < l.length - n
    · rw [List.getElem?_range' hi]; simp [List.getElem?_eq_getElem (show n + i < l.length by omega)]
    · rw [List.getElem?_eq_none (by simpa using hi), List.getElem?_eq_none (by omega)]; rfl
/-- a region's head reads in whatever world meets S, which its loud tail keeps -/
theorem wp_region_free {id : Nat} {Q : Exit → Act → World → Prop} {a : Act} {w : World} {l : List Oper} (n : Nat) (hm : P.follows .mixedOrders = true)
    (hB : pinB l.toArray ((List.range n).map (fun i => (i, .free)) ++ (List.range' n (l.length - n)).map (fun i => (i, .loud))) = true) (hk : ((l.take n).all fun o => freeKind o.op) = true)
    (S : World → Prop) (hS : S w.drew)
    (h : wpQuiet P l.toArray S (fun a' => wpPin P l.toArray S (NoPanic Q) ((List.range' n (l.length - n)).map (fun i => (i, .loud))) (fun W => W = w.drew) a') (l.take n) a) (hn : n ≤ l.length) :
    (Code.region id l.toArray true).wp P Q a w := by
  refine wp_region_pin _ hm hB S (fun W => W = w.drew) rfl (fun W hW => by rw [hW]; exact hS) (wpPin_frees _ (l.take n) ?_ hk h)
  apply List.ext_getElem?
  intro i
  simp only [List.getElem?_map, List.getElem?_take]
  by_cases hi : i < n
  · rw [List.getElem?_range hi]; simp [hi, List.getElem?_eq_getElem (show i < l.length by omega)]
  · rw [List.getElem?_eq_none (by simpa using hi)]; simp [hi]
/-- the kinds of a free head -/
def freeKinds (o : Oper) : PinKind := match o.op with
  | .move _ => .copy
  | .assign _ => .copy
  | _ => .free
def freeS : Nat → List Oper → List (Nat × PinKind)
  | _, [] => []
  | k, o :: l => (k, freeKinds o) :: freeS (k + 1) l
theorem wpPin_freeS {Q : Exit → Act → World → Prop} {rest : List (Nat × PinKind)} {C : World → Prop} {W0 : World} (hS : S W0) (l : List Oper) : ∀ (k : Nat) {a : Act}, (∀ j, j < l.length → ops[k + j]? = l[j]?) → (l.all fun o => freeKind o.op) = true →
    wpQuiet P ops S (fun a' => wpPin P ops S Q rest C a') l a → wpPin P ops S Q (freeS k l ++ rest) C a := by
  induction l with
  | nil => intro k a _ _ h; exact h
  | cons o l ih =>
    intro k a hl hk h
    simp only [List.all_cons, Bool.and_eq_true] at hk
    have h0 : ops[k]? = some o := by simpa using hl 0 (by simp)
    have h1 : qOp P ops S k (wpQuiet P ops S (fun a' => wpPin P ops S Q rest C a') l) a := by
      unfold qOp; simp only [h0]; exact h
    obtain ⟨v, hy, h2⟩ := yieldsIn_of_qOp h0 h1
    have h3 := ih (k + 1) (a := a.put o.dst v) (fun j hj => by have := hl (j + 1) (by simp; omega); simpa [Nat.add_assoc, Nat.add_comm 1 j] using this) hk.2 h2
    simp only [freeS, List.cons_append, wpPin, h0]
    have hfree : YieldsIf P ops S o v a := by
      rcases hy with ⟨hw, hv⟩ | ⟨hw, rfl⟩
      · refine .inl ⟨hw, fun w hS => ?_⟩
        have h3 := hv w hS
        unfold Oper.quietAt at h3
        cases hr : (execOp a.eval o).run P w with
        | ok n w' =>
          obtain ⟨u, rfl⟩ := freeRun hk.1 hr
          rw [hr] at h3
          obtain ⟨rfl, rfl⟩ := h3
          rfl
        | halt e w' => rw [hr] at h3; exact h3.elim
      · exact .inr ⟨hw, rfl⟩
    have hcopy : ∀ x, (o.op = .move x ∨ o.op = .assign x) → YieldsIf P ops (fun _ => True) o v a := by
      intro x hx
      rcases hy with ⟨hw, hv⟩ | ⟨hw, rfl⟩
      · refine .inl ⟨hw, fun w _ => ?_⟩
        have h4 := hv W0 hS
        have e : ∀ w, (execOp a.eval o).run P w = .ok (.value (a.eval x)) w := by
          intro w
          unfold execOp
          rcases hx with hx | hx <;> simp only [hx] <;> rfl
        unfold Oper.quietAt at h4
        rw [e] at h4
        obtain ⟨_, rfl⟩ := h4
        exact e w
      · exact .inr ⟨hw, rfl⟩
    have hkk : (freeKinds o = .copy ∧ ∃ x, o.op = .move x ∨ o.op = .assign x) ∨ freeKinds o = .free := by
      unfold freeKinds
      split
      · rename_i x hx; exact .inl ⟨rfl, x, .inl hx⟩
      · rename_i x hx; exact .inl ⟨rfl, x, .inr hx⟩
      · exact .inr rfl
    rcases hkk with ⟨hkk, x, hx⟩ | hkk
    · rw [hkk]; exact ⟨v, hcopy x hx, h3⟩
    · rw [hkk]; exact ⟨v, hfree, h3⟩
theorem wpQuiet_imp {C : World → Prop} : ∀ (m : List Oper) (Q1 Q2 : Act → Prop) (a : Act), (∀ a, Q1 a → Q2 a) → wpQuiet P ops C Q1 m a → wpQuiet P ops C Q2 m a := by
  intro m
  induction m with
  | nil => intro Q1 Q2 a hq h; exact hq _ h
  | cons o m ih =>
    intro Q1 Q2 a hq h
    simp only [wpQuiet] at h ⊢
    split
    · rename_i hw; simp only [hw, if_true] at h; exact Oper.quiet_mono (fun a h => ih Q1 Q2 a hq h) h
    · rename_i hw; simp only [hw] at h; exact ih Q1 Q2 _ hq h
/-- the turn, and what is left behind it -/
theorem wpPin_turn {Q : Exit → Act → World → Prop} (o : Oper) (k : Nat) (l : List Oper) {C : World → Prop} {a : Act} (hl : ∀ j, j < l.length + 1 → ops[k + j]? = (o :: l)[j]?)
    (h : ∀ W, C W → wpList P ops Q (o :: l) a W) : wpPin P ops S Q ((k, .turn) :: (List.range' (k + 1) l.length).map (fun i => (i, .loud))) C a := by
  have h0 : ops[k]? = some o := by simpa using hl 0 (by simp)
  simp only [wpPin, h0]
  intro W hW
  have h1 := h W hW
  have h2 : wpOp P ops Q k (wpList P ops Q l) a W := by unfold wpOp; simp only [h0]; exact h1
  refine wpOp_mono (fun a' W' h' => wpPin_louds _ l ?_ (fun W hW => by subst hW; exact h')) h2
  apply List.ext_getElem?
  intro i
  simp only [List.getElem?_map]
  by_cases hi : i < l.length
  · rw [List.getElem?_range' hi]
    have h3 := hl (i + 1) (by omega)
    simp only [List.getElem?_cons_succ] at h3
    simp only [Option.map_some, Nat.one_mul]
    rw [show k + 1 + i = k + (i + 1) by omega, h3]
    simp [List.getElem?_eq_getElem hi]
  · rw [List.getElem?_eq_none (by simpa using hi), List.getElem?_eq_none (by omega)]; rfl
/-- n operations read in whatever world meets S, m loud ones keep it, and behind those it may fall -/
theorem wp_region_turn {id : Nat} {Q : Exit → Act → World → Prop} {a : Act} {w : World} {l : List Oper} (n m : Nat) {o : Oper} {tl : List Oper} (hl : l.drop (n + m) = o :: tl) (hm : P.follows .mixedOrders = true)
    (hB : pinB l.toArray (freeS 0 (l.take n) ++ ((List.range' n m).map (fun i => (i, .loud)) ++ ((n + m, .turn) :: (List.range' (n + m + 1) tl.length).map (fun i => (i, .loud))))) = true) (hk : ((l.take n).all fun o => freeKind o.op) = true)
    (S : World → Prop) (hS : S w.drew)
    (h : wpQuiet P l.toArray S (fun a' => ∀ rest, (∀ C a, (∀ W, C W → wpList P l.toArray (NoPanic Q) (o :: tl) a W) → wpPin P l.toArray S (NoPanic Q) rest C a) →
      wpPin P l.toArray S (NoPanic Q) ((List.range' n m).map (fun i => (i, .loud)) ++ rest) (fun W => W = w.drew) a') (l.take n) a) :
    (Code.region id l.toArray true).wp P Q a w := by
  refine wp_region_pin _ hm hB S (fun W => W = w.drew) rfl (fun W hW => by rw [hW]; exact hS) (wpPin_freeS hS (l.take n) 0 (fun j hj => by simp at hj; simp [List.getElem?_take, hj]) hk ?_)
  refine wpQuiet_imp _ _ _ _ (fun a' h' => h' _ (fun C a hc => wpPin_turn o _ tl (fun j hj => ?_) hc)) h
  have := congrArg (fun z => z[j]?) hl
  simp only [List.getElem?_drop] at this
  simpa using this
/-- the operations of those numbers -/
def pickOps (l : List Oper) : List Nat → List Oper
  | [] => []
  | i :: is => match l[i]? with
    | some o => o :: pickOps l is
    | none => []
def picksAll (l : List Oper) (is : List Nat) : Bool := is.all fun i => decide (i < l.length)
theorem pickOps_spec {l : List Oper} : ∀ {is : List Nat}, picksAll l is = true → is.map (fun i => l.toArray[i]?) = (pickOps l is).map some
  | [], _ => rfl
  | i :: is, h => by
    simp only [picksAll, List.all_cons, Bool.and_eq_true, decide_eq_true_eq] at h
    have ih := pickOps_spec (l := l) (is := is) h.2
    have h0 : l[i]? = some l[i] := List.getElem?_eq_getElem h.1
    simp only [List.map_cons, pickOps, h0]
    rw [ih]
    simp [h.1]
def kindIx (ops : Array Oper) (i : Nat) : Nat × PinKind := (i, match ops[i]? with | some o => freeKinds o | none => .free)
theorem wpPin_freeIx {Q : Exit → Act → World → Prop} {rest : List (Nat × PinKind)} {C : World → Prop} {W0 : World} (hS : S W0) (is : List Nat) : ∀ (l : List Oper) {a : Act}, is.map (fun i => ops[i]?) = l.map some → (l.all fun o => freeKind o.op) = true →
    wpQuiet P ops S (fun a' => wpPin P ops S Q rest C a') l a → wpPin P ops S Q (is.map (kindIx ops) ++ rest) C a := by
  induction is with
  | nil =>
    intro l a hl _ h
    cases l with
    | nil => exact h
    | cons o l => cases hl
  | cons i is ih =>
    intro l a hl hk h
    cases l with
    | nil => cases hl
    | cons o l =>
      simp only [List.map_cons, List.cons.injEq] at hl
      have h4 := wpPin_freeS (S := S) (Q := Q) (rest := is.map (kindIx ops) ++ rest) (C := C) hS [o] i (a := a) (fun j hj => by
        have : j = 0 := by simpa using hj
        subst this; simpa using hl.1) (by simp only [List.all_cons, Bool.and_eq_true] at hk ⊢; exact ⟨hk.1, rfl⟩)
        (by
          simp only [List.all_cons, Bool.and_eq_true] at hk
          have e : ∀ a, wpQuiet P ops S (fun a' => wpPin P ops S Q rest C a') l a → wpQuiet P ops S (fun a' => wpPin P ops S Q (is.map (kindIx ops) ++ rest) C a') [] a := fun a h => ih l hl.2 hk.2 h
          simp only [wpQuiet] at h ⊢
          split
          · rename_i hw; simp only [hw, if_true] at h; exact Oper.quiet_mono (fun a h => e a h) h
          · rename_i hw; simp only [hw] at h; exact e _ h)
      simp only [freeS, List.cons_append, List.nil_append] at h4
      simp only [List.map_cons, List.cons_append, kindIx, hl.1]
      exact h4
/-- the free operations fs first, then the loud ones ms, which keep S, then the turn t, then ls -/
theorem wp_region_sel {id : Nat} {Q : Exit → Act → World → Prop} {a : Act} {w : World} {l : List Oper} (fs ms : List Nat) (t : Nat) (ls : List Nat) {o : Oper} (hl : l[t]? = some o) (hm : P.follows .mixedOrders = true)
    (hB : (pinB l.toArray (fs.map (kindIx l.toArray) ++ (ms.map (fun i => (i, .loud)) ++ ((t, .turn) :: ls.map (fun i => (i, .loud))))) && picksAll l fs && picksAll l ls && (pickOps l fs).all fun o => freeKind o.op) = true)
    (S : World → Prop) (hS : S w.drew)
    (h : wpQuiet P l.toArray S (fun a' => ∀ rest, (∀ C a, (∀ W, C W → wpList P l.toArray (NoPanic Q) (o :: pickOps l ls) a W) → wpPin P l.toArray S (NoPanic Q) rest C a) →
      wpPin P l.toArray S (NoPanic Q) (ms.map (fun i => (i, .loud)) ++ rest) (fun W => W = w.drew) a') (pickOps l fs) a) :
    (Code.region id l.toArray true).wp P Q a w := by
  simp only [Bool.and_eq_true] at hB
  obtain ⟨⟨⟨hB, hfs⟩, hls⟩, hk⟩ := hB
  refine wp_region_pin _ hm hB S (fun W => W = w.drew) rfl (fun W hW => by rw [hW]; exact hS) (wpPin_freeIx hS fs (pickOps l fs) (pickOps_spec hfs) hk ?_)
  refine wpQuiet_imp _ _ _ _ (fun a' h' => h' _ (fun C a hc => ?_)) h
  have h0 : l.toArray[t]? = some o := by simpa using hl
  simp only [wpPin, h0]
  intro W hW
  have h1 := hc W hW
  have h2 : wpOp P l.toArray (NoPanic Q) t (wpList P l.toArray (NoPanic Q) (pickOps l ls)) a W := by unfold wpOp; simp only [h0]; exact h1
  exact wpOp_mono (fun a' W' h' => wpPin_louds _ (pickOps l ls) (pickOps_spec hls) (fun W hW => by subst hW; exact h')) h2
/-- what stands behind the one loud operation: operations that read nothing -/
def MidOn (P : Program) (ops : Array Oper) (Q : Exit → Act → World → Prop) (tl : List Oper) : Exit → Act → World → Prop
  | .normal, a', W' => wpQuiet P ops (fun _ => True) (fun a'' => Q .normal a'' W') tl a'
  | e, a', W' => Q e a' W'
/-- still operations, one that is loud, then such as read nothing -/
theorem wp_region_mid {id : Nat} {Q : Exit → Act → World → Prop} {a : Act} {w : World} {l : List Oper} (n : Nat) {o : Oper} {tl : List Oper} (hl : l.drop n = o :: tl) (hm : P.follows .mixedOrders = true)
    (hB : pinB l.toArray (headS 0 (l.take n) ++ (n, .loud) :: (List.range' (n + 1) (l.length - (n + 1))).map (fun i => (i, .free))) = true) (hk : (tl.all fun o => freeKind o.op) = true)
    (C : World → Prop) (hC : C w.drew) (h : wpQuiet P l.toArray C (fun a' => ∀ W, C W → wpList P l.toArray (MidOn P l.toArray (NoPanic Q) tl) [o] a' W) (l.take n) a) :
    (Code.region id l.toArray true).wp P Q a w := by
  have hn : n < l.length := by
    rcases Nat.lt_or_ge n l.length with h1 | h1
    · exact h1
    · rw [List.drop_eq_nil_of_le h1] at hl; cases hl
  have hno : l.toArray[n]? = some o := by
    have := congrArg (fun z => z[0]?) hl
    simpa using this
  refine wp_region_pin _ hm hB (fun _ => True) C hC (fun _ _ => trivial) (wpPin_heads hC (l.take n) 0 (fun j hj => by simp at hj; simp [List.getElem?_take, hj]) ?_)
  · have key : ∀ (m : List Oper) (Q1 Q2 : Act → Prop) (a : Act), (∀ a, Q1 a → Q2 a) → wpQuiet P l.toArray C Q1 m a → wpQuiet P l.toArray C Q2 m a := by
      intro m
      induction m with
      | nil => intro Q1 Q2 a hq h; exact hq _ h
      | cons o m ih =>
        intro Q1 Q2 a hq h
        simp only [wpQuiet] at h ⊢
        split
        · rename_i hw; simp only [hw, if_true] at h; exact Oper.quiet_mono (fun a h => ih Q1 Q2 a hq h) h
        · rename_i hw; simp only [hw] at h; exact ih Q1 Q2 _ hq h
    refine key _ _ _ _ (fun a' h' => wpPin_loud o hno (fun W hW => ?_)) h
    have h2 := h' W hW
    have mono : ∀ (Q1 Q2 : Exit → Act → World → Prop), (∀ e a w, Q1 e a w → Q2 e a w) → wpList P l.toArray Q1 [o] a' W → wpList P l.toArray Q2 [o] a' W := by
      intro Q1 Q2 hq h3
      simp only [wpList] at h3 ⊢
      split
      · rename_i hw
        simp only [hw, if_true] at h3
        rcases h3 with h3 | ⟨h3, a0, w0, h4⟩
        · refine .inl ?_
          unfold Oper.wp at *
          generalize (execOp a'.eval o).run P W = r at *
          cases r with
          | ok n w' =>
            cases n <;> simp only [Oper.upon] at h3 ⊢ <;>
              first
                | exact hq _ _ _ h3
                | exact Calls.mono h3 (fun e w'' he => by
                    cases e with
                    | returned v => exact hq _ _ _ he
                    | panicked c => exact hq _ _ _ he
                    | outgrown => obtain ⟨a0, w0, h4⟩ := he; exact ⟨a0, w0, hq _ _ _ h4⟩)
                | exact Rows.mono h3 (fun v w'' he => hq _ _ _ he)
          | halt x w' => cases x <;> simp only [Oper.upon] at h3 ⊢ <;> exact hq _ _ _ h3
        · exact .inr ⟨h3, a0, w0, hq _ _ _ h4⟩
      · rename_i hw
        simp only [hw] at h3
        exact hq _ _ _ h3
    refine mono _ _ (fun e a w he => ?_) h2
    cases e with
    | normal =>
      refine ⟨fun W => W = w, rfl, fun _ _ => trivial, ?_⟩
      have h5 : wpQuiet P l.toArray (fun _ => True) (fun a'' => wpPin P l.toArray (fun _ => True) (NoPanic Q) [] (fun W => W = w) a'') tl a := by
        have key2 : ∀ (m : List Oper) (Q1 Q2 : Act → Prop) (a : Act), (∀ a, Q1 a → Q2 a) → wpQuiet P l.toArray (fun _ => True) Q1 m a → wpQuiet P l.toArray (fun _ => True) Q2 m a := by
          intro m
          induction m with
          | nil => intro Q1 Q2 a hq h; exact hq _ h
          | cons o m ih =>
            intro Q1 Q2 a hq h
            simp only [wpQuiet] at h ⊢
            split
            · rename_i hw; simp only [hw, if_true] at h; exact Oper.quiet_mono (fun a h => ih Q1 Q2 a hq h) h
            · rename_i hw; simp only [hw] at h; exact ih Q1 Q2 _ hq h
        exact key2 _ _ _ _ (fun a' h' W hW => by subst hW; exact h') he
      have h6 := wpPin_frees (rest := []) (List.range' (n + 1) (l.length - (n + 1))) tl ?_ hk h5
      · simpa using h6
      · have htl : tl = l.drop (n + 1) := by
          have := congrArg List.tail hl
          simpa using this.symm
        rw [htl]
        apply List.ext_getElem?
        intro i
        simp only [List.getElem?_map, List.getElem?_drop]
        by_cases hi : i < l.length - (n + 1)
        · rw [List.getElem?_range' hi]; simp [List.getElem?_eq_getElem (show n + 1 + i < l.length by omega)]
        · rw [List.getElem?_eq_none (by simpa using hi), List.getElem?_eq_none (by omega)]; rfl
    | panic c => exact he
    | ret => exact he
    | exit i => exact he
    | goto g => exact he
    | outgrown => exact he
end
end Go.Proofs.Ytkmjehodmfnihaa
