/-
  pane.Put: a value is put into a window.
-/
import Derived.Test.YtkmjehodmfnihaaPane
set_option linter.unusedSimpArgs false
set_option linter.unusedVariables false
namespace Go.Proofs.Ytkmjehodmfnihaa
open Go.RowKit

theorem ownsRow_set {w : World} {base e size g n c : Nat} {cs : List Value} (h : w.ownsRow base e size (.slice (some ⟨g, 0, none⟩) n c) n cs) (m : Nat) (u : Value) : (w.setCell ⟨g, m, none⟩ u).ownsRow base e size (.slice (some ⟨g, 0, none⟩) n c) n (cs.set m u) := by
  obtain ⟨h1, h2⟩ := h
  refine ⟨by simpa using h1, .inr ?_⟩
  rcases h2 with ⟨hv, _⟩ | ⟨g', cap, cur, hv, hb, hh, h3, h4, h5, h6⟩
  · cases hv
  · simp only [Value.slice.injEq, Option.some.injEq, Addr.mk.injEq, and_true, true_and] at hv
    obtain ⟨rfl, rfl⟩ := hv
    refine ⟨g, c, cur.setIfInBounds m u, rfl, hb, ?_, h3, h4, by simpa using h5, ?_⟩
    · exact (Blk.set (t := e) (cs := cur) hh m u).out
    · rw [Array.toList_setIfInBounds, List.take_set, h6]
def Pane.withAg (p : Pane) (a : Agg) : Pane := ⟨p.key, p.sp, a⟩
theorem flatP_set (xs : List Pane) (i : Nat) (hi : i < xs.length) (a : Agg) :
    ((((encP.flat xs).set (i * 7 + 3) (.int .i64 a.n)).set (i * 7 + 4) (.int .i64 a.sum)).set (i * 7 + 5) (.int .i64 a.lo)).set (i * 7 + 6) (.int .i64 a.hi) = encP.flat (xs.set i (xs[i].withAg a)) := by
  have hx : xs = xs.take i ++ xs[i] :: xs.drop (i + 1) := by rw [List.getElem_cons_drop, List.take_append_drop]
  have hl : (encP.flat (xs.take i)).length = i * 7 := by rw [Enc.flat_length]; simp [encP]; omega
  have hs : xs.set i (xs[i].withAg a) = xs.take i ++ (xs[i].withAg a) :: xs.drop (i + 1) := by rw [List.set_eq_take_append_cons_drop, if_pos hi]
  rw [hs]
  have hf : encP.flat xs = encP.flat (xs.take i) ++ (xs[i].cells ++ encP.flat (xs.drop (i + 1))) := by
    conv => lhs; rw [hx]
    rw [Enc.flat_append, Enc.flat_cons]; rfl
  have hf2 : encP.flat (xs.take i ++ (xs[i].withAg a) :: xs.drop (i + 1)) = encP.flat (xs.take i) ++ ((xs[i].withAg a).cells ++ encP.flat (xs.drop (i + 1))) := by
    rw [Enc.flat_append, Enc.flat_cons]; rfl
  rw [hf, hf2]
  generalize encP.flat (xs.take i) = A at *
  generalize encP.flat (xs.drop (i + 1)) = B at *
  rw [← hl]
  simp [List.set_append_right, Pane.cells, Pane.withAg]

set_option maxRecDepth 100000 in
set_option maxHeartbeats 400000 in
theorem panePut_yes (v : Value) (xs : List Pane) (key : ByteArray) (s : Span) (x : Int) (L : Nat) (w : World) (hR : Rd encP w v xs) (hlen : xs.length < 1000000) (hL : L < xs.length) (hp : ∀ k (h : k < xs.length), decide (xs[k].sp.cmp s < 0) = decide (k < L)) (hno : hitB xs L s = true) :
    Calls Try.prog 27 #[v, .string key, s.val, .int .i64 x] w
      fun e w' => ∃ v', e = .returned v' ∧ Own encP 32 w' w.heap.size v' (xs.set L (xs[L].withAg (xs[L].ag.merge (Agg.one x)))) ∧ Below w.heap.size w w' := by
  simp only [Span.val]
  have hp' := hid_mk hp
  clear hp
  go_enter Try.func27, Try.ntmps27
  go_wp2_with fail
  refine (cloneP v xs _ (hR.alloc _) (by omega)).mono ?_
  rintro e w1 ⟨v1, rfl, hO1, hb1⟩
  have T1 : Blk w1 w.heap.size _ _ := (Blk.new _ _ _).below hb1
  have Z1 : Below w.heap.size w w1 := by
    refine below_then ?_ ?_ hb1
    (iterate 24 (try (first | (with_reducible exact Below.size (by assumption)) | ((with_reducible show (_ : Nat) ≤ _); (try simp only [drewN_heap]); first | (with_reducible exact Below.size (by assumption)) | omega | (simp <;> omega)) | (with_reducible exact Below.refl _ _) | (with_reducible exact Below.size (Below.drew (by assumption))) | (with_reducible assumption) | (with_reducible refine Below.alloc ?_ ?_ _) | (with_reducible refine Below.drew ?_) | (with_reducible refine lib_below_drewN ?_ _) | (with_reducible refine Below.setCell ?_ ?_ _) | (with_reducible refine below_then ?_ ?_ (by assumption)))))
  simp only [World.size_alloc] at hO1
  clear hb1
  have HO1 := hid_mk (hO1.lower (Nat.le_succ _))
  clear hO1
  obtain ⟨tc, tf⟩ := blk_facts T1
  go_wp2_with fail
  refine (paneAt v1 xs s L _ HO1.out.rd (by omega) (by omega) hp'.out).mono ?_
  rintro e w2 ⟨rfl, hb2⟩
  rw [hno]
  have T2 := T1.below hb2
  have HO2 := hid_mk (HO1.out.below hb2)
  have Z2 : Below w.heap.size w w2 := by
    refine below_then ?_ ?_ hb2
    (iterate 24 (try (first | (with_reducible exact Below.size (by assumption)) | ((with_reducible show (_ : Nat) ≤ _); (try simp only [drewN_heap]); first | (with_reducible exact Below.size (by assumption)) | omega | (simp <;> omega)) | (with_reducible exact Below.refl _ _) | (with_reducible exact Below.size (Below.drew (by assumption))) | (with_reducible assumption) | (with_reducible refine Below.alloc ?_ ?_ _) | (with_reducible refine Below.drew ?_) | (with_reducible refine lib_below_drewN ?_ _) | (with_reducible refine Below.setCell ?_ ?_ _) | (with_reducible refine below_then ?_ ?_ (by assumption)))))
  clear hb2 tc tf T1 Z1
  obtain ⟨g, cap, cur, rfl, hbg, hh, h1, h2, h3, h4⟩ := HO2.out.row (by omega)
  obtain ⟨kb, off, hA, hkb, c0, c1, c2, c3, c4, c5, c6⟩ := HO2.out.rd.pane hL
  simp only [Option.some.injEq, Addr.mk.injEq, and_true] at hA
  obtain ⟨rfl, rfl⟩ := hA
  simp only [Nat.zero_add] at c0 c1 c2 c3 c4 c5 c6
  have hfz : ∀ i, w2.frozen? ⟨g, i, none⟩ = false := fun i => by simp [World.frozen?, hh]
  have hgw := blk_lt hh
  clear hh h1 h2 h3 h4 HO1
  go_wp2_with fail
  refine (aggAdd xs[L].ag x _).mono ?_
  rintro e w3 ⟨rfl, hb3⟩
  have HO3 := hid_mk (HO2.out.below hb3)
  have Z3 : Below w.heap.size w w3 := by
    refine below_then ?_ ?_ hb3
    (iterate 24 (try (first | (with_reducible exact Below.size (by assumption)) | ((with_reducible show (_ : Nat) ≤ _); (try simp only [drewN_heap]); first | (with_reducible exact Below.size (by assumption)) | omega | (simp <;> omega)) | (with_reducible exact Below.refl _ _) | (with_reducible exact Below.size (Below.drew (by assumption))) | (with_reducible assumption) | (with_reducible refine Below.alloc ?_ ?_ _) | (with_reducible refine Below.drew ?_) | (with_reducible refine lib_below_drewN ?_ _) | (with_reducible refine Below.setCell ?_ ?_ _) | (with_reducible refine below_then ?_ ?_ (by assumption)))))
  obtain ⟨hc3, hf3, hz3⟩ := bfacts hb3
  have hfz3 : ∀ i, w3.frozen? ⟨g, i, none⟩ = false := fun i => by rw [hf3 g i hgw]; exact hfz i
  have d3 := (hc3 g (L * 7 + 3) hgw).trans c3
  have d4 := (hc3 g (L * 7 + 4) hgw).trans c4
  have d5 := (hc3 g (L * 7 + 5) hgw).trans c5
  have d6 := (hc3 g (L * 7 + 6) hgw).trans c6
  clear hb3 hc3 hf3 hz3 c0 c1 c2 c3 c4 c5 c6 hfz
  generalize hag : xs[L].ag.merge (Agg.one x) = ag
  have Hag := hid_mk hag
  clear hag
  simp only [Agg.val]
  go_wp2_with fail
  go_ret
  rw [Hag.out]
  refine ⟨_, rfl, ?_, ?_⟩
  · have o := ownsRow_set (ownsRow_set (ownsRow_set (ownsRow_set HO3.out (L * 7 + 3) (.int .i64 ag.n)) (L * 7 + 4) (.int .i64 ag.sum)) (L * 7 + 5) (.int .i64 ag.lo)) (L * 7 + 6) (.int .i64 ag.hi)
    rw [flatP_set xs L hL ag] at o
    unfold Own
    rw [List.length_set]
    exact o
  · (iterate 24 (try (first | (with_reducible exact Below.size (by assumption)) | ((with_reducible show (_ : Nat) ≤ _); (try simp only [drewN_heap]); first | (with_reducible exact Below.size (by assumption)) | omega | (simp <;> omega)) | (with_reducible exact Below.refl _ _) | (with_reducible exact Below.size (Below.drew (by assumption))) | (with_reducible assumption) | (with_reducible refine Below.alloc ?_ ?_ _) | (with_reducible refine Below.drew ?_) | (with_reducible refine lib_below_drewN ?_ _) | (with_reducible refine Below.setCell ?_ ?_ _) | (with_reducible refine below_then ?_ ?_ (by assumption)))))

set_option maxRecDepth 100000 in
set_option maxHeartbeats 400000 in
theorem panePut_no (v : Value) (xs : List Pane) (key : ByteArray) (s : Span) (x : Int) (L : Nat) (w : World) (hR : Rd encP w v xs) (hlen : xs.length < 1000000) (hL : L ≤ xs.length) (hp : ∀ k (h : k < xs.length), decide (xs[k].sp.cmp s < 0) = decide (k < L)) (hno : hitB xs L s = false) :
    Calls Try.prog 27 #[v, .string key, s.val, .int .i64 x] w
      fun e w' => ∃ v', e = .returned v' ∧ Own encP 32 w' w.heap.size v' (xs.take L ++ ⟨key, s, Agg.one x⟩ :: xs.drop L) ∧ Below w.heap.size w w' := by
  simp only [Span.val]
  have hp' := hid_mk hp
  clear hp
  go_enter Try.func27, Try.ntmps27
  go_wp2_with fail
  refine (cloneP v xs _ (hR.alloc _) (by omega)).mono ?_
  rintro e w1 ⟨v1, rfl, hO1, hb1⟩
  have T1 : Blk w1 w.heap.size _ _ := (Blk.new _ _ _).below hb1
  have Z1 : Below w.heap.size w w1 := by
    refine below_then ?_ ?_ hb1
    (iterate 24 (try (first | (with_reducible exact Below.size (by assumption)) | ((with_reducible show (_ : Nat) ≤ _); (try simp only [drewN_heap]); first | (with_reducible exact Below.size (by assumption)) | omega | (simp <;> omega)) | (with_reducible exact Below.refl _ _) | (with_reducible exact Below.size (Below.drew (by assumption))) | (with_reducible assumption) | (with_reducible refine Below.alloc ?_ ?_ _) | (with_reducible refine Below.drew ?_) | (with_reducible refine lib_below_drewN ?_ _) | (with_reducible refine Below.setCell ?_ ?_ _) | (with_reducible refine below_then ?_ ?_ (by assumption)))))
  simp only [World.size_alloc] at hO1
  clear hb1
  have HO1 := hid_mk (hO1.lower (Nat.le_succ _))
  clear hO1
  obtain ⟨tc, tf⟩ := blk_facts T1
  go_wp2_with fail
  refine (paneAt v1 xs s L _ HO1.out.rd (by omega) (by omega) hp'.out).mono ?_
  rintro e w2 ⟨rfl, hb2⟩
  rw [hno]
  have T2 := T1.below hb2
  have HO2 := hid_mk (HO1.out.below hb2)
  have Z2 : Below w.heap.size w w2 := by
    refine below_then ?_ ?_ hb2
    (iterate 24 (try (first | (with_reducible exact Below.size (by assumption)) | ((with_reducible show (_ : Nat) ≤ _); (try simp only [drewN_heap]); first | (with_reducible exact Below.size (by assumption)) | omega | (simp <;> omega)) | (with_reducible exact Below.refl _ _) | (with_reducible exact Below.size (Below.drew (by assumption))) | (with_reducible assumption) | (with_reducible refine Below.alloc ?_ ?_ _) | (with_reducible refine Below.drew ?_) | (with_reducible refine lib_below_drewN ?_ _) | (with_reducible refine Below.setCell ?_ ?_ _) | (with_reducible refine below_then ?_ ?_ (by assumption)))))
  clear hb2 tc tf T1 Z1 HO1
  obtain ⟨tc, tf⟩ := blk_facts T2
  go_wp2
  refine wp_region_turn 5 1 rfl (by kernel_rfl) (by kernel_rfl) (by kernel_rfl) (fun W => Blk W w.heap.size #[.int .i64 s.s, .int .i64 s.e] 28) T2.drew ?_
  simp only [List.take_succ_cons, List.take_zero]
  go_big_quiet_step ((fail))
  go_big_quiet_step ((fail))
  go_big_quiet_step ((fail))
  go_big_quiet_want
  refine ⟨.agg #[.int .i64 s.s, .int .i64 s.e], fun W hW => ?_, ?_⟩
  · obtain ⟨hc, hf⟩ := blk_facts hW
    go_simp
  go_simp
  go_big_quiet_on
  go_big_quiet_step ((fail))
  refine wpQuiet_nil ?_
  intro rest hr
  refine wpPin_loud _ rfl ?_
  rintro W rfl
  go_wp2_with fail
  refine (aggOf x _).mono ?_
  rintro e w3 ⟨rfl, hb3⟩
  simp only [Agg.val]
  have T3 := T2.drew.below hb3
  have HO3 := hid_mk ((Own.below (HO2.out.drew) hb3))
  have Z3 : Below w.heap.size w w3 := by
    refine below_then ?_ ?_ hb3
    (iterate 24 (try (first | (with_reducible exact Below.size (by assumption)) | ((with_reducible show (_ : Nat) ≤ _); (try simp only [drewN_heap]); first | (with_reducible exact Below.size (by assumption)) | omega | (simp <;> omega)) | (with_reducible exact Below.refl _ _) | (with_reducible exact Below.size (Below.drew (by assumption))) | (with_reducible assumption) | (with_reducible refine Below.alloc ?_ ?_ _) | (with_reducible refine Below.drew ?_) | (with_reducible refine lib_below_drewN ?_ _) | (with_reducible refine Below.setCell ?_ ?_ _) | (with_reducible refine below_then ?_ ?_ (by assumption)))))
  clear hb3
  go_wp2_with fail
  refine ⟨fun W => _ = W, rfl, fun W hW => by rw [← hW]; exact T3, ?_⟩
  refine hr _ _ ?_
  rintro W rfl
  go_wp2_with fail
  have HO4 := hid_mk (HO3.out.alloc (.cells (⟨key, s, Agg.one x⟩ : Pane).cells.toArray 32))
  have B4 := Blk.new w3 (⟨key, s, Agg.one x⟩ : Pane).cells.toArray 32
  have hz3 := Z3.size
  have hr1 := HO3.out.base
  refine (insertP v1 xs L _ _ ⟨key, s, Agg.one x⟩ _ hL HO4.out (by simp; omega) hlen B4 (fun he => absurd (HO3.out.lt _ he) (Nat.lt_irrefl _))).mono ?_
  rintro e w5 ⟨v', rfl, hO5, hg5⟩
  have Z4 := Below.alloc Z3 hz3 (.cells (⟨key, s, Agg.one x⟩ : Pane).cells.toArray 32)
  have Z5 := hid_mk (Z4.grown hg5 (by simp; omega) (fun k hk => hr1 k hk))
  have HO5 := hid_mk hO5
  clear hO5 hg5 Z4 B4 HO4 hr1 HO3
  go_wp2_with fail
  refine NoPanic.normal ?_
  go_wp2
  go_ret
  exact ⟨_, rfl, HO5.out, Z5.out⟩

theorem hitB_lt {xs : List Pane} {L : Nat} {s : Span} (h : hitB xs L s = true) : L < xs.length := by
  rcases Nat.lt_or_ge L xs.length with h1 | h1
  · exact h1
  · simp [hitB, List.getElem?_eq_none h1] at h
/-- where the first window that isn't below s stands -/
def placeP (xs : List Pane) (s : Span) : Nat := xs.findIdx fun p => decide (0 ≤ p.sp.cmp s)
/-- the panes stand in rising order of their windows -/
def RisP (xs : List Pane) : Prop := xs.Pairwise fun p q => p.sp.cmp q.sp < 0
/-- a value is put into the window s -/
def putP (xs : List Pane) (key : ByteArray) (s : Span) (x : Int) : List Pane :=
  if hitB xs (placeP xs s) s then (match xs[placeP xs s]? with | some p => xs.set (placeP xs s) (p.withAg (p.ag.merge (Agg.one x))) | none => xs)
  else xs.take (placeP xs s) ++ ⟨key, s, Agg.one x⟩ :: xs.drop (placeP xs s)
theorem cmp_le_lt {x y z : Span} (h1 : x.cmp y < 0) (h2 : y.cmp z < 0) : x.cmp z < 0 := by
  unfold Span.cmp cmpS orI cmpI at *
  split at h1 <;> split at h2 <;> split <;> omega
theorem placeP_le (xs : List Pane) (s : Span) : placeP xs s ≤ xs.length := List.findIdx_le_length
theorem placeP_spec {xs : List Pane} (h : RisP xs) (s : Span) (k : Nat) (hk : k < xs.length) : decide (xs[k].sp.cmp s < 0) = decide (k < placeP xs s) := by
  by_cases h1 : k < placeP xs s
  · have h2 := List.not_of_lt_findIdx h1
    simp only [h1, decide_true, decide_eq_true_eq]
    simpa using h2
  · simp only [h1, decide_false, decide_eq_false_iff_not]
    intro h3
    have hlt : placeP xs s < xs.length := by omega
    have h4 : decide (0 ≤ xs[placeP xs s].sp.cmp s) = true := List.findIdx_getElem (w := hlt)
    have h5 : placeP xs s ≠ k := by rintro rfl; simp at h4; omega
    have h6 := List.pairwise_iff_getElem.1 h (placeP xs s) k hlt hk (by omega)
    have := cmp_le_lt h6 h3
    simp at h4; omega
/-- pane.Put -/
theorem panePut (v : Value) (xs : List Pane) (key : ByteArray) (s : Span) (x : Int) (w : World) (hR : Rd encP w v xs) (hlen : xs.length < 1000000) (hs : RisP xs) :
    Calls Try.prog 27 #[v, .string key, s.val, .int .i64 x] w
      fun e w' => ∃ v', e = .returned v' ∧ Own encP 32 w' w.heap.size v' (putP xs key s x) ∧ Below w.heap.size w w' := by
  cases hh : hitB xs (placeP xs s) s with
  | true =>
    have hL := hitB_lt hh
    have e : putP xs key s x = xs.set (placeP xs s) (xs[placeP xs s].withAg (xs[placeP xs s].ag.merge (Agg.one x))) := by
      unfold putP
      rw [if_pos hh, List.getElem?_eq_getElem hL]
    rw [e]
    exact panePut_yes v xs key s x _ w hR hlen hL (placeP_spec hs s) hh
  | false =>
    have e : putP xs key s x = xs.take (placeP xs s) ++ ⟨key, s, Agg.one x⟩ :: xs.drop (placeP xs s) := by
      unfold putP
      rw [if_neg (by simp [hh])]
    rw [e]
    exact panePut_no v xs key s x _ w hR hlen (placeP_le _ _) (placeP_spec hs s) hh
end Go.Proofs.Ytkmjehodmfnihaa
