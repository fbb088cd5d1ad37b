/-
  easellaw07.PanePlays returns true for every input and leaves its arguments as they were. Conditions: none beside the statement's own.
-/
import Derived.Test.YtkmjehodmfnihaaPlay7
import Derived.Test.YtkmjehodmfnihaaOpen
import Derived.Test.YtkmjehodmfnihaaRows
set_option linter.unusedSimpArgs false
set_option linter.unusedVariables false
namespace Go.Proofs.Ytkmjehodmfnihaa
open Go.ChangeShapes Go.WideShapes Go.ChangeAt Go.RowKit Go.WideMaps
open Go.ChangeMaps (open_string)

theorem int_one {H : Type} {enc : TypeId × Value → H} {w : World} {base : Nat} {spare : Nat → Bool} {held : Bool} {n : Nat} {c : Value} {y : Option (DataW H × List MemPlace)} {x : DataW H × List MemPlace} {t : TypeId} {k : IntKind} (hU : Try.prog.underlying t = some (.int k))
    (h : DataW.trod enc Try.prog w base spare held n t [c] = y) (hy : y = some x) : ∃ z, c = .int k z ∧ (Lit.int k z).wf = true := by
  subst hy
  obtain ⟨z, hc, _, hwf⟩ := DataW.trod_int hU h
  exact ⟨z, by simpa using hc, hwf⟩
theorem span_one {H : Type} {enc : TypeId × Value → H} {w : World} {base : Nat} {spare : Nat → Bool} {held : Bool} {n : Nat} {cs : List Value} {y : DataW H × List MemPlace}
    (h : DataW.trod enc Try.prog w base spare held n 28 cs = some y) : ∃ x : Span, cs = encS.cells x := by
  obtain ⟨xs, n', _, _, hl, hlen, hf⟩ := DataW.trod_struct Try.underlying28 h
  have hC : Try.prog.cellsOf 28 = 2 := by kernel_rfl
  have hI : Try.prog.cellsOf 2 = 1 := by kernel_rfl
  rw [hC] at hl
  match xs, hlen with
  | [y0, y1], _ =>
    match cs, hl with
    | [c0, c1], _ =>
      have h0 := hf 0 _ rfl
      have h1 := hf 1 _ rfl
      obtain ⟨z0, rfl, _⟩ := int_one Try.underlying2 h0 rfl
      obtain ⟨z1, rfl, _⟩ := int_one Try.underlying2 h1 rfl
      exact ⟨⟨z0, z1⟩, rfl⟩
theorem deed_one {H : Type} {enc : TypeId × Value → H} {w : World} {base : Nat} {spare : Nat → Bool} {held : Bool} (n : Nat) (cs : List Value) (y : DataW H × List MemPlace)
    (h : DataW.trod enc Try.prog w base spare held n 43 cs = some y) : ∃ x : Deed, cs = encD.cells x ∧ fit x.what = true := by
  obtain ⟨xs, n', _, _, hl, hlen, hf⟩ := DataW.trod_struct Try.underlying43 h
  have hC : Try.prog.cellsOf 43 = 4 := by kernel_rfl
  have hI : Try.prog.cellsOf 2 = 1 := by kernel_rfl
  have hI2 : Try.prog.cellsOf 3 = 1 := by kernel_rfl
  have hS : Try.prog.cellsOf 28 = 2 := by kernel_rfl
  rw [hC] at hl
  match xs, hlen with
  | [y0, y1, y2], _ =>
    match cs, hl with
    | [c0, c1, c2, c3], _ =>
      have h0 := hf 0 _ rfl
      have h1 := hf 1 _ rfl
      have h2 := hf 2 _ rfl
      obtain ⟨z0, rfl, hw⟩ := int_one Try.underlying3 h0 rfl
      obtain ⟨s, hs⟩ := span_one (h1.trans rfl)
      obtain ⟨z2, rfl, _⟩ := int_one Try.underlying2 h2 rfl
      have hs' : [c1, c2] = [Value.int .i64 s.s, Value.int .i64 s.e] := hs
      simp only [List.cons.injEq, and_true] at hs'
      obtain ⟨rfl, rfl⟩ := hs'
      exact ⟨⟨z0, s, z2⟩, rfl, wf_fit hw⟩

theorem Try.own : ownKnob Try.prog.godebug = none := by kernel_rfl
theorem Try.laidOut : laidOutB Try.prog = true := by kernel_rfl

set_option maxRecDepth 100000 in
theorem panePlays_lifted (os : Os) (started : os.Started) (H : Type) (enc : TypeId × Value → H) :
    ReturnsInHanded {} Try.checked os 4 .any (Rows.panePlaysSpec.pre6 enc Try.prog Try.f4 Rows.panePlaysRow.domain false) (Rows.panePlaysSpec.post enc Try.prog Try.f4 false true false false) := by
  refine returnsInHanded_of_change (C := Try.checked) Try.own started (by kernel_rfl) Try.func4
    (ChangeSpec.witness6 (enc := enc) (C := Try.checked) false ⟨#[], #[.slice none 0 0, .string ByteArray.empty], []⟩ 8 (by kernel_rfl) (by kernel_rfl) (by kernel_rfl) (by kernel_rfl)) ?_
  intro W base args ds gs before hval0 hW _ _
  have hval : ∀ (j : Nat) t v, Try.f4.params[j]? = some t → args[j]? = some v → Value.okWide Try.prog W .any base t v := hval0
  have hW' := hW
  obtain ⟨p, q, hA0, hV, rfl, hfz, hnd⟩ := hW
  have hA : DataW.TrodAll enc Try.prog W 0 (fun _ => true) true Try.f4.params.toList args.toList ds p := hA0
  rw [Try.params4] at hA hval
  obtain ⟨v0, v1, d0, d1, p0, p1, rfl, rfl, rfl, h0, h1⟩ := trodAll_two hA
  obtain ⟨rfl, rfl⟩ := trodVars_none hV
  have h0k := h0
  have h1k := h1
  obtain ⟨xs, hR, hfit⟩ := open_list encD (fun d => fit d.what = true) Try.underlying41 (by kernel_rfl) (fun n cs y h => deed_one n cs y h) (hval 0 41 v0 rfl rfl) h0
  obtain ⟨s, rfl, rfl, rfl, ws⟩ := open_string Try.underlying9 (hval 1 9 v1 rfl rfl) h1
  clear hA0 hval0
  simp only [List.append_nil] at hW'
  refine (panePlays v0 xs s W hR hfit ws).mono fun e W' ⟨he, hb⟩ => ?_
  subst he
  refine ⟨_, rfl, _, _, _, [], p0, [], hW', ?_, ?_, ?_, ?_, ?_⟩
  · exact trodAll_mk1 (shut_bool Try.underlying4 true)
  · have hlt : ∀ x ∈ p0, x.block < W.heap.size := fun x hx => hW'.lt x hx
    have t0 := Below.trod Try.laidOut (by kernel_rfl) (of_decide_eq_true (by kernel_rfl)) h0k hb hlt
    have t1 := Below.trod Try.laidOut (by kernel_rfl) (of_decide_eq_true (by kernel_rfl)) h1k hb (fun x hx => by cases hx)
    have := trodAll_mk2 t0 t1
    rw [List.append_nil] at this
    exact this
  · exact rfl
  · exact World.keptBut_mono (fun p hp => ⟨hp, .inr (.inl hp)⟩) (hb.frame (· ∈ p0))
  · exact fun h => by cases h

theorem panePlays_holds : Rows.PanePlaysSaid :=
  OpenClaim.holds_of_wide 4 Try.f4 rfl rfl rfl rfl rfl rfl rfl ⟨rfl, rfl, rfl, rfl, rfl⟩ rfl rfl rfl rfl rfl (by kernel_rfl) Try.func4 (by kernel_rfl)
    (of_decide_eq_true (by kernel_rfl)) (by unfold Func.isWrapper; first | (rw [if_pos (by decide +kernel)]; kernel_rfl) | (rw [if_neg (by decide +kernel)]; exact ⟨rfl, rfl⟩))
    (fun os started H enc _ => panePlays_lifted os started H enc)
end Go.Proofs.Ytkmjehodmfnihaa
