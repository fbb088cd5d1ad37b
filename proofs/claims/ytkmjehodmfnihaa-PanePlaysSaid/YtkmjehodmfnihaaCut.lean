/-
  pane.Cut: a window is cut out.
-/
import Derived.Test.YtkmjehodmfnihaaDel
set_option linter.unusedSimpArgs false
set_option linter.unusedVariables false
namespace Go.Proofs.Ytkmjehodmfnihaa
open Go.RowKit

/-- the zero pane -/
def zeroP : Pane := ⟨⟨#[]⟩, ⟨0, 0⟩, ⟨0, 0, 0, 0⟩⟩

theorem Own.setOther {α : Type} {E : Enc α} {T : TypeId} {w : World} {base : Nat} {v : Value} {xs : List α} (h : Own E T w base v xs) {a : Addr} {u : Value} (hne : v.ownBlock ≠ some a.block) : Own E T (w.setCell a u) base v xs :=
  h.keep fun b hv => Below.heap_setCell w a u b (by rintro rfl; exact hne hv)

set_option maxRecDepth 100000 in
set_option maxHeartbeats 400000 in
theorem paneCut_no (v : Value) (xs : List Pane) (s : Span) (L : Nat) (w : World) (hR : Rd encP w v xs) (hlen : xs.length ≤ 1000000) (hL : L ≤ xs.length) (hp : ∀ k (h : k < xs.length), decide (xs[k].sp.cmp s < 0) = decide (k < L)) (hno : hitB xs L s = false) :
    Calls Try.prog 24 #[v, s.val] w
      fun e w' => ∃ v', e = .returned (.tuple #[v', zeroP.val, .bool false]) ∧ Own encP 32 w' w.heap.size v' xs ∧ Below w.heap.size w w' := by
  simp only [Span.val]
  have hp' := hid_mk hp
  clear hp
  go_enter Try.func24, Try.ntmps24
  go_wp2_with fail
  refine (paneAt v xs s L _ ((hR.alloc _).alloc _) hlen hL hp'.out).mono ?_
  rintro e w1 ⟨rfl, hb1⟩
  rw [hno]
  have R1 : Blk w1 (w.heap.size + 1) _ _ := (Blk.new2 _ _ _ _).below hb1
  have HR1 := ((hR.alloc _).alloc _).below hb1
  have Z1 : Below w.heap.size w w1 := by
    refine below_then ?_ ?_ hb1
    (iterate 24 (try (first | (with_reducible exact Below.size (by assumption)) | ((with_reducible show (_ : Nat) ≤ _); (try simp only [drewN_heap]); first | (with_reducible exact Below.size (by assumption)) | omega | (simp <;> omega)) | (with_reducible exact Below.refl _ _) | (with_reducible exact Below.size (Below.drew (by assumption))) | (with_reducible assumption) | (with_reducible refine Below.alloc ?_ ?_ _) | (with_reducible refine Below.drew ?_) | (with_reducible refine lib_below_drewN ?_ _) | (with_reducible refine Below.setCell ?_ ?_ _) | (with_reducible refine below_then ?_ ?_ (by assumption)))))
  clear hb1
  go_wp2_with fail
  refine (cloneP v xs _ HR1 (by omega)).mono ?_
  rintro e w2 ⟨v2, rfl, hO2, hb2⟩
  have R2 := R1.below hb2
  have HO2 := hid_mk (hO2.lower (base' := w.heap.size) Z1.size)
  have hne2 : v2.ownBlock ≠ some (w.heap.size + 1) := fun he => by
    have h5 := hO2.base _ he
    have h6 := R1.lt
    omega
  obtain ⟨hc, hf⟩ := blk_facts R2
  have Z2 : Below w.heap.size w w2 := by
    refine below_then ?_ ?_ hb2
    (iterate 24 (try (first | (with_reducible exact Below.size (by assumption)) | ((with_reducible show (_ : Nat) ≤ _); (try simp only [drewN_heap]); first | (with_reducible exact Below.size (by assumption)) | omega | (simp <;> omega)) | (with_reducible exact Below.refl _ _) | (with_reducible exact Below.size (Below.drew (by assumption))) | (with_reducible assumption) | (with_reducible refine Below.alloc ?_ ?_ _) | (with_reducible refine Below.drew ?_) | (with_reducible refine lib_below_drewN ?_ _) | (with_reducible refine Below.setCell ?_ ?_ _) | (with_reducible refine below_then ?_ ?_ (by assumption)))))
  clear hb2 hO2 HR1 R1
  go_wp2
  refine bodyPost_ret (v := .tuple #[v2, zeroP.val, .bool false]) ?_ rfl ⟨v2, rfl, ?_, ?_⟩
  · simp [results, Try.results24, go_sem, zeroP, Pane.val, *]
  · repeat (refine Own.setOther ?_ hne2)
    exact HO2.out
  · (iterate 24 (try (first | (with_reducible exact Below.size (by assumption)) | ((with_reducible show (_ : Nat) ≤ _); (try simp only [drewN_heap]); first | (with_reducible exact Below.size (by assumption)) | omega | (simp <;> omega)) | (with_reducible exact Below.refl _ _) | (with_reducible exact Below.size (Below.drew (by assumption))) | (with_reducible assumption) | (with_reducible refine Below.alloc ?_ ?_ _) | (with_reducible refine Below.drew ?_) | (with_reducible refine lib_below_drewN ?_ _) | (with_reducible refine Below.setCell ?_ ?_ _) | (with_reducible refine below_then ?_ ?_ (by assumption)))))

set_option maxRecDepth 100000 in
set_option maxHeartbeats 400000 in
theorem paneCut_yes (v : Value) (xs : List Pane) (s : Span) (L : Nat) (w : World) (hR : Rd encP w v xs) (hlen : xs.length < 1000000) (hL : L < xs.length) (hp : ∀ k (h : k < xs.length), decide (xs[k].sp.cmp s < 0) = decide (k < L)) (hno : hitB xs L s = true) :
    Calls Try.prog 24 #[v, s.val] w
      fun e w' => ∃ v', e = .returned (.tuple #[v', xs[L].val, .bool true]) ∧ Own encP 32 w' w.heap.size v' (xs.eraseIdx L) ∧ Below w.heap.size w w' := by
  simp only [Span.val]
  have hp' := hid_mk hp
  clear hp
  obtain ⟨A, c, rfl, _⟩ := hR.slice
  go_enter Try.func24, Try.ntmps24
  go_wp2_with fail
  refine (paneAt _ xs s L _ ((hR.alloc _).alloc _) (by omega) (by omega) hp'.out).mono ?_
  rintro e w1 ⟨rfl, hb1⟩
  rw [hno]
  have R1 : Blk w1 (w.heap.size + 1) _ _ := (Blk.new2 _ _ _ _).below hb1
  have HR1 := ((hR.alloc _).alloc _).below hb1
  have Z1 : Below w.heap.size w w1 := by
    refine below_then ?_ ?_ hb1
    (iterate 24 (try (first | (with_reducible exact Below.size (by assumption)) | ((with_reducible show (_ : Nat) ≤ _); (try simp only [drewN_heap]); first | (with_reducible exact Below.size (by assumption)) | omega | (simp <;> omega)) | (with_reducible exact Below.refl _ _) | (with_reducible exact Below.size (Below.drew (by assumption))) | (with_reducible assumption) | (with_reducible refine Below.alloc ?_ ?_ _) | (with_reducible refine Below.drew ?_) | (with_reducible refine lib_below_drewN ?_ _) | (with_reducible refine Below.setCell ?_ ?_ _) | (with_reducible refine below_then ?_ ?_ (by assumption)))))
  clear hb1
  go_wp2_with fail
  refine (cloneP _ xs _ HR1 (by omega)).mono ?_
  rintro e w2 ⟨v2, rfl, hO2, hb2⟩
  have R2 := R1.below hb2
  have HR2 := HR1.below hb2
  have HO2 := hid_mk hO2
  have hz12 := hb2.size
  have hlt1 := R1.lt
  have hne2 : v2.ownBlock ≠ some (w.heap.size + 1) := fun he => by
    have h5 := hO2.base _ he
    omega
  have Z2 : Below w.heap.size w w2 := by
    refine below_then ?_ ?_ hb2
    (iterate 24 (try (first | (with_reducible exact Below.size (by assumption)) | ((with_reducible show (_ : Nat) ≤ _); (try simp only [drewN_heap]); first | (with_reducible exact Below.size (by assumption)) | omega | (simp <;> omega)) | (with_reducible exact Below.refl _ _) | (with_reducible exact Below.size (Below.drew (by assumption))) | (with_reducible assumption) | (with_reducible refine Below.alloc ?_ ?_ _) | (with_reducible refine Below.drew ?_) | (with_reducible refine lib_below_drewN ?_ _) | (with_reducible refine Below.setCell ?_ ?_ _) | (with_reducible refine below_then ?_ ?_ (by assumption)))))
  obtain ⟨kb, off, rfl, hkb, c0, c1, c2, c3, c4, c5, c6⟩ := HR1.pane hL
  clear hb2 hO2 HR1 R1
  go_wp2
  refine wp_region_sel [0, 1, 2, 3, 5, 6, 7, 8] [4, 9] 10 [11] rfl (by kernel_rfl) (by kernel_rfl) (fun W => Rd encP W (.slice (some ⟨kb, off, none⟩) xs.length c) xs) HR2.drew ?_
  simp only [pickOps, List.getElem?_cons_zero, List.getElem?_cons_succ]
  go_big_quiet_step ((fail))
  go_big_quiet_step ((fail))
  go_big_quiet_step ((fail))
  go_big_quiet_want
  refine ⟨.int .i64 (↑L + 1), fun W hW => ?_, ?_⟩
  · go_simp
    rw [IntKind.wrap_i64]; omega
  go_simp
  go_big_quiet_on
  go_big_quiet_step ((fail))
  go_big_quiet_step ((fail))
  go_big_quiet_want
  refine ⟨.pointer (some ⟨kb, off + L * 7, none⟩), fun W hW => ?_, ?_⟩
  · skip
    go_simp
  go_simp
  go_big_quiet_on
  go_big_quiet_want
  refine ⟨.agg #[.string xs[L].key, .int .i64 xs[L].sp.s, .int .i64 xs[L].sp.e, .int .i64 xs[L].ag.n, .int .i64 xs[L].ag.sum, .int .i64 xs[L].ag.lo, .int .i64 xs[L].ag.hi], fun W hW => ?_, ?_⟩
  · obtain ⟨b', o', hA, _, c0, c1, c2, c3, c4, c5, c6⟩ := hW.pane hL; simp only [Option.some.injEq, Addr.mk.injEq, and_true] at hA; obtain ⟨rfl, rfl⟩ := hA
    go_simp
  go_simp
  go_big_quiet_on
  refine wpQuiet_nil ?_
  intro rest hr
  refine wpPin_loud _ rfl ?_
  rintro W rfl
  go_wp2_with fail
  refine (deleteP v2 xs L w1.heap.size _ hL HO2.out.drew hz12 hlen).mono ?_
  rintro e w3 ⟨v3, rfl, hO3, hg3⟩
  have h3k : ∀ k, k < w1.heap.size → w3.heap[k]? = w2.heap[k]? := fun k hk => hg3.block k (by simp; omega) (fun he => by
    have h5 := HO2.out.base _ he.symm
    omega)
  have Z3 := hid_mk (Below.grown (Below.drew Z2) hg3 (by simp; have := Z2.size; omega) (fun k hk => by
    have h5 := HO2.out.base _ hk
    have := Z1.size
    omega))
  have HR3 : Hid (Rd encP w3 (.slice (some ⟨kb, off, none⟩) xs.length c) xs) := hid_mk (HR2.drew.keep hg3.size (fun b hb _ => by
    have : kb = b := by simpa [Value.ownBlock] using hb
    subst this
    exact h3k _ hkb))
  have R3 : Blk w3 (w.heap.size + 1) _ _ := (h3k _ hlt1).trans R2
  have hne3 : v3.ownBlock ≠ some (w.heap.size + 1) := fun he => by
    have h5 := hO3.base _ he
    omega
  have HO3 := hid_mk (hO3.lower (base' := w.heap.size) Z1.size)
  clear hO3 hg3 h3k R2 HR2 HO2
  go_wp2_with fail
  refine ⟨fun W => _ = W, rfl, fun W hW => by rw [← hW]; exact HR3.out, ?_⟩
  refine wpPin_loud _ rfl ?_
  rintro W rfl
  go_wp2_with fail
  refine ⟨fun W => _ = W, rfl, fun W hW => by rw [← hW]; exact HR3.out, ?_⟩
  refine hr _ _ ?_
  rintro W rfl
  obtain ⟨hc, hf⟩ := blk_facts R3
  go_wp2_with fail
  refine NoPanic.normal ?_
  go_wp2
  have Z3' := Z3.out
  refine bodyPost_ret (v := .tuple #[v3, xs[L].val, .bool true]) ?_ rfl ⟨v3, rfl, ?_, ?_⟩
  · simp [results, Try.results24, go_sem, Pane.val, *]
  · repeat (refine Own.setOther ?_ hne3)
    exact HO3.out
  · (iterate 24 (try (first | (with_reducible exact Below.size (by assumption)) | ((with_reducible show (_ : Nat) ≤ _); (try simp only [drewN_heap]); first | (with_reducible exact Below.size (by assumption)) | omega | (simp <;> omega)) | (with_reducible exact Below.refl _ _) | (with_reducible exact Below.size (Below.drew (by assumption))) | (with_reducible assumption) | (with_reducible refine Below.alloc ?_ ?_ _) | (with_reducible refine Below.drew ?_) | (with_reducible refine lib_below_drewN ?_ _) | (with_reducible refine Below.setCell ?_ ?_ _) | (with_reducible refine below_then ?_ ?_ (by assumption)))))

/-- the pane of window s, and whether there is one -/
def findP (xs : List Pane) (s : Span) : Pane := if hitB xs (placeP xs s) s then (xs[placeP xs s]?).getD zeroP else zeroP
def hasP (xs : List Pane) (s : Span) : Bool := hitB xs (placeP xs s) s
def cutP (xs : List Pane) (s : Span) : List Pane := if hitB xs (placeP xs s) s then xs.eraseIdx (placeP xs s) else xs
theorem paneFind (v : Value) (xs : List Pane) (s : Span) (w : World) (hR : Rd encP w v xs) (hlen : xs.length ≤ 1000000) (hs : RisP xs) :
    Calls Try.prog 23 #[v, s.val] w
      fun e w' => e = .returned (.tuple #[(findP xs s).val, .bool (hasP xs s)]) ∧ Below w.heap.size w w' := by
  unfold findP hasP
  cases hh : hitB xs (placeP xs s) s with
  | true =>
    have hL := hitB_lt hh
    rw [if_pos rfl, List.getElem?_eq_getElem hL]
    exact paneFind_yes v xs s _ w hR hlen hL (placeP_spec hs s) hh
  | false =>
    rw [if_neg (by simp)]
    exact paneFind_no v xs s _ w hR hlen (placeP_le _ _) (placeP_spec hs s) hh
theorem paneCut (v : Value) (xs : List Pane) (s : Span) (w : World) (hR : Rd encP w v xs) (hlen : xs.length < 1000000) (hs : RisP xs) :
    Calls Try.prog 24 #[v, s.val] w
      fun e w' => ∃ v', e = .returned (.tuple #[v', (findP xs s).val, .bool (hasP xs s)]) ∧ Own encP 32 w' w.heap.size v' (cutP xs s) ∧ Below w.heap.size w w' := by
  unfold findP hasP cutP
  cases hh : hitB xs (placeP xs s) s with
  | true =>
    have hL := hitB_lt hh
    rw [if_pos rfl, if_pos rfl, List.getElem?_eq_getElem hL]
    exact paneCut_yes v xs s _ w hR hlen hL (placeP_spec hs s) hh
  | false =>
    rw [if_neg (by simp), if_neg (by simp)]
    exact paneCut_no v xs s _ w hR (by omega) (placeP_le _ _) (placeP_spec hs s) hh
end Go.Proofs.Ytkmjehodmfnihaa
