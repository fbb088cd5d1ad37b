/-
  A loop in a great frame: what a round needs to know of the slots is told by number.
-/
import Derived.Test.YtkmjehodmfnihaaBase
set_option linter.unusedSimpArgs false
set_option linter.unusedVariables false
namespace Go.Proofs.Ytkmjehodmfnihaa
open Go.RowKit

def getu (a : Act) (k : Nat) : Value := a.tmps.toList.getD k undef
/-- the frame reads as fr, the relation holds, the measure is less -/
def InvF (fr : (Nat → Value) → Act) (rel : (Nat → Value) → World → Prop) (mu : (Nat → Value) → World → Nat) (m : Nat) (a : Act) (w : World) : Prop :=
  a = fr (getu a) ∧ rel (getu a) w ∧ mu (getu a) w < m
theorem wp_loopF {P : Program} {Q : Exit → Act → World → Prop} {a : Act} {w : World} {c : Code} (fr : (Nat → Value) → Act) (rel : (Nat → Value) → World → Prop) (mu : (Nat → Value) → World → Nat)
    (h0 : a = fr (getu a)) (h1 : rel (getu a) w)
    (round : ∀ u wr m, rel u wr → mu u wr = m → c.wp P (Exit.then (InvF fr rel mu m) Q) (fr u) wr) : (Code.loop c).wp P Q a w := by
  refine wp_loop (fun a' w' => a' = fr (getu a') ∧ rel (getu a') w') (fun a' w' => mu (getu a') w') ⟨h0, h1⟩ ?_
  rintro a' w' ⟨h2, h3⟩
  have h4 := round (getu a') w' _ h3 rfl
  rw [← h2] at h4
  refine Code.wp_mono (fun e a1 w1 h5 => ?_) h4
  cases e with
  | normal => obtain ⟨h6, h7, h8⟩ := h5; exact ⟨⟨h6, h7⟩, h8⟩
  | _ => exact h5
end Go.Proofs.Ytkmjehodmfnihaa
