/-
  pane.Merge: a value is merged in.
-/
import Derived.Test.YtkmjehodmfnihaaDelS
import Derived.Test.YtkmjehodmfnihaaFloat
import Derived.Deep.DeepCutAuto
set_option linter.unusedSimpArgs false
set_option linter.unusedVariables false
namespace Go.Proofs.Ytkmjehodmfnihaa
open Go.RowKit

theorem Own.grown {α : Type} {E : Enc α} {T : TypeId} {w w' : World} {base : Nat} {v : Value} {xs : List α} {o : Option Nat} (h : Own E T w base v xs) (hg : w.grownBy w' o) (hne : ∀ b, v.ownBlock = some b → o ≠ some b) : Own E T w' base v xs :=
  h.keep fun b hv => hg.block b (h.lt b hv) fun e => hne b hv e.symm
theorem Own.apart {α β : Type} {E : Enc α} {F : Enc β} {T T' : TypeId} {w : World} {base base' : Nat} {v v' : Value} {xs : List α} {ys : List β} (h : Own E T w base v xs) (k : Own F T' w base' v' ys) (hT : T ≠ T') : ∀ b, v.ownBlock = some b → v'.ownBlock ≠ some b := by
  intro b hb hb'
  rcases h.2 with ⟨rfl, _⟩ | ⟨g, cap, cur, rfl, _, hh, _⟩
  · cases hb
  · rcases k.2 with ⟨rfl, _⟩ | ⟨g', cap', cur', rfl, _, hh', _⟩
    · cases hb'
    · have e1 : g = b := by simpa [Value.ownBlock] using hb
      have e2 : g' = b := by simpa [Value.ownBlock] using hb'
      subst e1; subst e2
      rw [hh] at hh'
      injection hh' with h1
      injection h1 with _ h2 _
      exact hT h2
theorem Blk.set7 {w : World} {b : Nat} {t : TypeId} {c0 c1 c2 c3 c4 c5 c6 a0 a1 a2 a3 a4 a5 a6 : Value} (h : Blk w b #[c0, c1, c2, c3, c4, c5, c6] t) :
    Blk (((((((w.setCell ⟨b, 0, none⟩ a0).setCell ⟨b, 1, none⟩ a1).setCell ⟨b, 2, none⟩ a2).setCell ⟨b, 3, none⟩ a3).setCell ⟨b, 4, none⟩ a4).setCell ⟨b, 5, none⟩ a5).setCell ⟨b, 6, none⟩ a6) b #[a0, a1, a2, a3, a4, a5, a6] t := by
  have := ((((((h.set 0 a0).set 1 a1).set 2 a2).set 3 a3).set 4 a4).set 5 a5).set 6 a6
  simpa using this
theorem Blk.set_12 {w : World} {b : Nat} {t : TypeId} {c0 c1 c2 c3 c4 c5 c6 a1 a2 : Value} (h : Blk w b #[c0, c1, c2, c3, c4, c5, c6] t) :
    Blk ((w.setCell ⟨b, 1, none⟩ a1).setCell ⟨b, 2, none⟩ a2) b #[c0, a1, a2, c3, c4, c5, c6] t := by
  have := (h.set 1 a1).set 2 a2
  simpa using this
theorem Blk.set_36 {w : World} {b : Nat} {t : TypeId} {c0 c1 c2 c3 c4 c5 c6 a3 a4 a5 a6 : Value} (h : Blk w b #[c0, c1, c2, c3, c4, c5, c6] t) :
    Blk ((((w.setCell ⟨b, 3, none⟩ a3).setCell ⟨b, 4, none⟩ a4).setCell ⟨b, 5, none⟩ a5).setCell ⟨b, 6, none⟩ a6) b #[c0, c1, c2, a3, a4, a5, a6] t := by
  have := (((h.set 3 a3).set 4 a4).set 5 a5).set 6 a6
  simpa using this
theorem Rd.litS {w : World} {vb : Nat} {x : Span} (h : Blk w vb x.cells.toArray 28) : Rd encS w (.slice (some ⟨vb, 0, none⟩) 1 1) [x] := by
  obtain ⟨hc, hf⟩ := blk_facts h
  refine ⟨⟨_, 1, rfl, Nat.le_refl _, by simp [maxLen], fun _ => ⟨vb, 0, rfl, h.lt, fun j u hu => ?_⟩⟩⟩
  rw [Nat.zero_add, hc]
  rw [Enc.flat_one] at hu
  simpa [encS] using hu
def meetP (x : Pane) (s : Span) : Bool := meetB x.sp.s x.sp.e s.s s.e
def outM (xs : List Pane) (s : Span) : List Pane := xs.filter fun x => !meetP x s
def metM (xs : List Pane) (s : Span) : List Pane := xs.filter fun x => meetP x s
def joinS (a b : Span) : Span := ⟨minI a.s b.s, maxI a.e b.e⟩
def accP (p x : Pane) : Pane := ⟨p.key, joinS p.sp x.sp, p.ag.merge x.ag⟩
def accM (p : Pane) (xs : List Pane) (s : Span) : Pane := (metM xs s).foldl accP p

theorem outM_snoc (l : List Pane) (x : Pane) (s : Span) : outM (l ++ [x]) s = outM l s ++ if meetP x s then [] else [x] := by
  unfold outM; rw [List.filter_append]; cases h : meetP x s <;> simp [h]
theorem metM_snoc (l : List Pane) (x : Pane) (s : Span) : metM (l ++ [x]) s = metM l s ++ if meetP x s then [x] else [] := by
  unfold metM; rw [List.filter_append]; cases h : meetP x s <;> simp [h]
theorem accM_snoc (p : Pane) (l : List Pane) (x : Pane) (s : Span) : accM p (l ++ [x]) s = if meetP x s then accP (accM p l s) x else accM p l s := by
  unfold accM; rw [metM_snoc]; cases h : meetP x s <;> simp [h]
set_option maxRecDepth 100000 in
set_option maxHeartbeats 800000 in
theorem paneMerge (v : Value) (xs : List Pane) (key : ByteArray) (s : Span) (x : Int) (w : World) (hR : Rd encP w v xs) (hlen : xs.length < 900000) (hs : RisP (outM xs s)) :
    Calls Try.prog 26 #[v, .string key, s.val, .int .i64 x] w
      fun e w' => ∃ v1 v2, e = .returned (.tuple #[v1, v2, (accM ⟨key, s, Agg.one x⟩ xs s).sp.val]) ∧ Own encP 32 w' w.heap.size v1 ((outM xs s).take (placeP (outM xs s) (accM ⟨key, s, Agg.one x⟩ xs s).sp) ++ accM ⟨key, s, Agg.one x⟩ xs s :: (outM xs s).drop (placeP (outM xs s) (accM ⟨key, s, Agg.one x⟩ xs s).sp))
        ∧ Own encS 28 w' w.heap.size v2 (dropS ((metM xs s).map Pane.sp) (accM ⟨key, s, Agg.one x⟩ xs s).sp) ∧ Below w.heap.size w w' := by
  obtain ⟨I⟩ := infoP
  obtain ⟨J⟩ := infoS
  have hR' := hid_mk hR
  have hs' := hid_mk hs
  clear hR hs
  obtain ⟨A, c, rfl, _⟩ := hR'.out.slice
  simp only [Span.val]
  go_enter Try.func26, Try.ntmps26
  go_upto_region 1 with fail
  go_cut [11] (fun s11 wx => ∃ B : Nat, s11 = .pointer (some ⟨B, 0, none⟩) ∧ w.heap.size + 2 ≤ B ∧ Hid (Below w.heap.size w wx) ∧ Hid (Blk wx B (#[.string (Pane.mk key s (Agg.one x)).key, .int .i64 (Pane.mk key s (Agg.one x)).sp.s, .int .i64 (Pane.mk key s (Agg.one x)).sp.e, .int .i64 (Pane.mk key s (Agg.one x)).ag.n, .int .i64 (Pane.mk key s (Agg.one x)).ag.sum, .int .i64 (Pane.mk key s (Agg.one x)).ag.lo, .int .i64 (Pane.mk key s (Agg.one x)).ag.hi] : Array Value) 32) ∧ Hid (Blk wx w.heap.size #[.int .i64 s.s, .int .i64 s.e] 28) ∧ Hid (Blk wx (w.heap.size + 1) #[.int .i64 0, .int .i64 0] 28))
  case first =>
    have hB1 := Blk.new w #[.int .i64 s.s, .int .i64 s.e] 28
    have hB2 := hB1.alloc (.cells #[.int .i64 0, .int .i64 0] 28)
    have hB3 := Blk.new2 w (.cells #[.int .i64 s.s, .int .i64 s.e] 28) #[.int .i64 0, .int .i64 0] 28
    have hZ0 : Below w.heap.size w ((w.alloc (.cells #[.int .i64 s.s, .int .i64 s.e] 28)).alloc (.cells #[.int .i64 0, .int .i64 0] 28)) := ((Below.refl _ _).alloc (Nat.le_refl _) _).alloc (by simp) _
    have hsz : w.heap.size + 2 ≤ ((w.alloc (.cells #[.int .i64 s.s, .int .i64 s.e] 28)).alloc (.cells #[.int .i64 0, .int .i64 0] 28)).heap.size := by simp
    generalize ((w.alloc (.cells #[.int .i64 s.s, .int .i64 s.e] 28)).alloc (.cells #[.int .i64 0, .int .i64 0] 28)) = W0 at hB2 hB3 hZ0 hsz ⊢
    obtain ⟨tc, tf⟩ := blk_facts hB2
    clear hB1
    refine wp_region_float [0, 1, 2] [4] [6] 3 5 rfl (by kernel_rfl) (by kernel_rfl) (fun W => Blk W w.heap.size #[.int .i64 s.s, .int .i64 s.e] 28 ∧ Blk W (w.heap.size + 1) #[.int .i64 0, .int .i64 0] 28) ⟨hB2.drew, hB3.drew⟩ ?_
    simp only [pickOps, List.getElem?_cons_zero, List.getElem?_cons_succ]
    go_big_quiet_step ((fail))
    go_big_quiet_want
    refine ⟨.agg #[.int .i64 s.s, .int .i64 s.e], fun W hW => ?_, ?_⟩
    · obtain ⟨hc, hf⟩ := blk_facts hW.1
      go_simp
    go_simp
    go_big_quiet_on
    go_big_quiet_step ((fail))
    refine wpQuiet_nil ?_
    constructor
    · refine wpPin_loud _ rfl ?_
      rintro W rfl
      go_wp2_with fail
      refine ⟨fun W => _ = W, rfl, fun W hW => by rw [← hW]; exact ⟨hB2.drew.alloc _, hB3.drew.alloc _⟩, ?_⟩
      refine wpPin_loud _ rfl ?_
      rintro W rfl
      go_wp2_with fail
      refine (aggOf x _).mono ?_
      rintro e w3 ⟨rfl, hb3⟩
      have hS3 := (hB2.drew.alloc (.cells (#[.string zeroP.key, .int .i64 zeroP.sp.s, .int .i64 zeroP.sp.e, .int .i64 zeroP.ag.n, .int .i64 zeroP.ag.sum, .int .i64 zeroP.ag.lo, .int .i64 zeroP.ag.hi] : Array Value) 32)).below hb3
      have hS4 := (hB3.drew.alloc (.cells (#[.string zeroP.key, .int .i64 zeroP.sp.s, .int .i64 zeroP.sp.e, .int .i64 zeroP.ag.n, .int .i64 zeroP.ag.sum, .int .i64 zeroP.ag.lo, .int .i64 zeroP.ag.hi] : Array Value) 32)).below hb3
      simp only [Agg.val]
      go_wp2_with fail
      have hN3 : Blk w3 W0.heap.size (#[.string zeroP.key, .int .i64 zeroP.sp.s, .int .i64 zeroP.sp.e, .int .i64 zeroP.ag.n, .int .i64 zeroP.ag.sum, .int .i64 zeroP.ag.lo, .int .i64 zeroP.ag.hi] : Array Value) 32 := (Blk.new W0.drew (#[.string zeroP.key, .int .i64 zeroP.sp.s, .int .i64 zeroP.sp.e, .int .i64 zeroP.ag.n, .int .i64 zeroP.ag.sum, .int .i64 zeroP.ag.lo, .int .i64 zeroP.ag.hi] : Array Value) 32).below hb3
      have hZ3 : Below w.heap.size w w3 := by
        refine below_then ?_ ?_ hb3
        (iterate 24 (try (first | (with_reducible exact Below.size (by assumption)) | ((with_reducible show (_ : Nat) ≤ _); (try simp only [drewN_heap]); first | (with_reducible exact Below.size (by assumption)) | omega | (simp <;> omega)) | (with_reducible exact Below.refl _ _) | (with_reducible exact Below.size (Below.drew (by assumption))) | (with_reducible assumption) | (with_reducible refine Below.alloc ?_ ?_ _) | (with_reducible refine Below.drew ?_) | (with_reducible refine lib_below_drewN ?_ _) | (with_reducible refine Below.setCell ?_ ?_ _) | (with_reducible refine below_then ?_ ?_ (by assumption)))))
      obtain ⟨tn, fn⟩ := blk_facts hN3
      refine ⟨fun W => _ = W, rfl, fun W hW => by rw [← hW]; exact ⟨hS3, hS4⟩, ?_⟩
      refine wpPin_ms (W0 := w3) ⟨hS3, hS4⟩ [4] (by kernel_rfl) ?_
      simp only [pickOps, List.getElem?_cons_zero, List.getElem?_cons_succ]
      go_big_quiet_want
      refine ⟨.agg #[.string key, .int .i64 s.s, .int .i64 s.e, .int .i64 (Agg.one x).n, .int .i64 (Agg.one x).sum, .int .i64 (Agg.one x).lo, .int .i64 (Agg.one x).hi], fun W hW => ?_, ?_⟩
      · skip
        go_simp
      go_simp
      go_big_quiet_on
      refine wpQuiet_nil ?_
      refine wpPin_loud _ rfl ?_
      rintro W rfl
      go_wp2_with fail
      refine ⟨fun W => _ = W, rfl, fun W hW => by rw [← hW]; exact ⟨(by repeat (first | (with_reducible exact hS3) | refine Blk.setOther ?_ (by simp; omega))), (by repeat (first | (with_reducible exact hS4) | refine Blk.setOther ?_ (by simp; omega)))⟩, ?_⟩
      rintro W rfl
      refine NoPanic.normal ?_
      go_wp2_with fail
      go_meet
      refine ⟨W0.heap.size, rfl, hsz, hid_mk ?_, hid_mk hN3.set7, hid_mk ?_, hid_mk ?_⟩
      · repeat (refine Below.setCell ?_ (by simp; omega) _)
        exact hZ3
      · repeat (refine Blk.setOther ?_ (by simp; omega))
        exact hS3
      · repeat (refine Blk.setOther ?_ (by simp; omega))
        exact hS4
    · rintro W rfl
      go_wp2_with fail
      refine (aggOf x _).mono ?_
      rintro e w3 ⟨rfl, hb3⟩
      have hS3 := hB2.drew.below hb3
      have hS4 := hB3.drew.below hb3
      simp only [Agg.val]
      go_wp2_with fail
      have hZ3 : Below w.heap.size w w3 := by
        refine below_then ?_ ?_ hb3
        (iterate 24 (try (first | (with_reducible exact Below.size (by assumption)) | ((with_reducible show (_ : Nat) ≤ _); (try simp only [drewN_heap]); first | (with_reducible exact Below.size (by assumption)) | omega | (simp <;> omega)) | (with_reducible exact Below.refl _ _) | (with_reducible exact Below.size (Below.drew (by assumption))) | (with_reducible assumption) | (with_reducible refine Below.alloc ?_ ?_ _) | (with_reducible refine Below.drew ?_) | (with_reducible refine lib_below_drewN ?_ _) | (with_reducible refine Below.setCell ?_ ?_ _) | (with_reducible refine below_then ?_ ?_ (by assumption)))))
      refine ⟨fun W => _ = W, rfl, fun W hW => by rw [← hW]; exact ⟨hS3, hS4⟩, ?_⟩
      refine wpFl_ms (W0 := w3) ⟨hS3, hS4⟩ [4] (by kernel_rfl) ?_
      simp only [pickOps, List.getElem?_cons_zero, List.getElem?_cons_succ]
      go_big_quiet_want
      refine ⟨.agg #[.string key, .int .i64 s.s, .int .i64 s.e, .int .i64 (Agg.one x).n, .int .i64 (Agg.one x).sum, .int .i64 (Agg.one x).lo, .int .i64 (Agg.one x).hi], fun W hW => ?_, ?_⟩
      · skip
        go_simp
      go_simp
      go_big_quiet_on
      refine wpQuiet_nil ?_
      refine wpPin_loud _ rfl ?_
      rintro W rfl
      go_wp2_with fail
      refine ⟨fun W => _ = W, rfl, fun W hW => by rw [← hW]; exact ⟨hS3.alloc _, hS4.alloc _⟩, ?_⟩
      refine wpPin_loud _ rfl ?_
      rintro W rfl
      go_wp2_with fail
      refine ⟨fun W => _ = W, rfl, fun W hW => by rw [← hW]; exact ⟨hS3.alloc _, hS4.alloc _⟩, ?_⟩
      rintro W rfl
      refine NoPanic.normal ?_
      go_wp2_with fail
      go_meet
      have hz3 := hb3.size
      refine ⟨w3.heap.size, rfl, Nat.le_trans hsz hz3, hid_mk (hZ3.alloc (by have := hZ3.size; omega) _), hid_mk (Blk.new _ _ _), hid_mk (hS3.alloc _), hid_mk (hS4.alloc _)⟩
  case rest =>
    obtain ⟨B, rfl, hB, hZ, hP, hS, hT⟩ := hcut
    obtain ⟨base, hbase⟩ : ∃ base, base = wc.heap.size := ⟨_, rfl⟩
    have hBb : B < base := by rw [hbase]; exact hP.out.lt
    have hzb : w.heap.size ≤ base := by omega
    have hb0 : Hid (base ≤ wc.heap.size) := hid_mk (by omega)
    clear hbase
    go_wp2_with fail
    go_loopw [12, 13, 25] (fun o g i wr => ∃ (k : Nat) (q : Pane), k ≤ xs.length ∧ i = .int .i64 k ∧ Hid (q = accM ⟨key, s, Agg.one x⟩ (xs.take k) s) ∧ Hid (Own encP 32 wr base o (outM (xs.take k) s)) ∧ Hid (Own encS 28 wr base g ((metM (xs.take k) s).map Pane.sp))
      ∧ Hid (Below w.heap.size w wr) ∧ Hid (Blk wr B (#[.string q.key, .int .i64 q.sp.s, .int .i64 q.sp.e, .int .i64 q.ag.n, .int .i64 q.ag.sum, .int .i64 q.ag.lo, .int .i64 q.ag.hi] : Array Value) 32) ∧ Hid (Blk wr w.heap.size #[.int .i64 s.s, .int .i64 s.e] 28) ∧ Hid (Blk wr (w.heap.size + 1) #[.int .i64 0, .int .i64 0] 28) ∧ Hid (base ≤ wr.heap.size)) (fun _ _ i _ => xs.length - (intOf i).toNat)
    case atStart => exact ⟨0, ⟨key, s, Agg.one x⟩, Nat.zero_le _, rfl, hid_mk rfl, hid_mk (Own.nil _ _ _), hid_mk (Own.nil _ _ _), hZ, hP, hS, hT, hb0⟩
    case round =>
      clear hZ hP hS hT hb0
      obtain ⟨k, q, hk, rfl, hq, hO, hG, hZ, hP, hS, hT, hbr⟩ := hrel
      have hRr := hid_mk (hR'.out.below hZ.out)
      have hbz := hbr.out
      have hlo : (outM (xs.take k) s).length ≤ k := Nat.le_trans (List.length_filter_le _ _) (by simp; omega)
      have hlm : (metM (xs.take k) s).length ≤ k := Nat.le_trans (List.length_filter_le _ _) (by simp; omega)
      by_cases hlt : k < xs.length
      · obtain ⟨b, off, rfl, hbk, c0, c1, c2, c3, c4, c5, c6⟩ := hRr.out.pane (j := k) hlt
        have htk : xs.take (k + 1) = xs.take k ++ [xs[k]] := List.take_succ_eq_append_getElem hlt
        have ho1 := outM_snoc (xs.take k) xs[k] s
        have hm1 := metM_snoc (xs.take k) xs[k] s
        have ha1 := accM_snoc ⟨key, s, Agg.one x⟩ (xs.take k) xs[k] s
        rw [← htk] at ho1 hm1 ha1
        have ho1' := hid_mk ho1
        have hm1' := hid_mk hm1
        have ha1' := hid_mk ha1
        clear htk ho1 hm1 ha1
        obtain ⟨sc, sf⟩ := blk_facts hS.out
        have hSl := hS.out.lt
        have hSl2 : ¬ w.heap.size = wr.heap.size := by omega
        go_wp2_with fail
        refine (spanMeet _ _ _ _ _).mono ?_
        rintro e w1 ⟨rfl, hb1⟩
        have X1 : Blk w1 wr.heap.size (#[.string xs[k].key, .int .i64 xs[k].sp.s, .int .i64 xs[k].sp.e, .int .i64 xs[k].ag.n, .int .i64 xs[k].ag.sum, .int .i64 xs[k].ag.lo, .int .i64 xs[k].ag.hi] : Array Value) 32 := (Blk.new _ _ _).below hb1
        have P1 := hid_mk ((hP.out.alloc (.cells (#[.string xs[k].key, .int .i64 xs[k].sp.s, .int .i64 xs[k].sp.e, .int .i64 xs[k].ag.n, .int .i64 xs[k].ag.sum, .int .i64 xs[k].ag.lo, .int .i64 xs[k].ag.hi] : Array Value) 32)).below hb1)
        have S1 := hid_mk ((hS.out.alloc (.cells (#[.string xs[k].key, .int .i64 xs[k].sp.s, .int .i64 xs[k].sp.e, .int .i64 xs[k].ag.n, .int .i64 xs[k].ag.sum, .int .i64 xs[k].ag.lo, .int .i64 xs[k].ag.hi] : Array Value) 32)).below hb1)
        have T1 := hid_mk ((hT.out.alloc (.cells (#[.string xs[k].key, .int .i64 xs[k].sp.s, .int .i64 xs[k].sp.e, .int .i64 xs[k].ag.n, .int .i64 xs[k].ag.sum, .int .i64 xs[k].ag.lo, .int .i64 xs[k].ag.hi] : Array Value) 32)).below hb1)
        have O1 := hid_mk (Own.below (hO.out.alloc (.cells (#[.string xs[k].key, .int .i64 xs[k].sp.s, .int .i64 xs[k].sp.e, .int .i64 xs[k].ag.n, .int .i64 xs[k].ag.sum, .int .i64 xs[k].ag.lo, .int .i64 xs[k].ag.hi] : Array Value) 32)) hb1)
        have G1 := hid_mk (Own.below (hG.out.alloc (.cells (#[.string xs[k].key, .int .i64 xs[k].sp.s, .int .i64 xs[k].sp.e, .int .i64 xs[k].ag.n, .int .i64 xs[k].ag.sum, .int .i64 xs[k].ag.lo, .int .i64 xs[k].ag.hi] : Array Value) 32)) hb1)
        have hZ0 := hZ.out
        have hzw := hZ0.size
        have hz1 := hb1.size
        simp only [World.size_alloc] at hz1
        have Z1 : Below w.heap.size w w1 := by
          refine below_then ?_ ?_ hb1
          (iterate 24 (try (first | (with_reducible exact Below.size (by assumption)) | ((with_reducible show (_ : Nat) ≤ _); (try simp only [drewN_heap]); first | (with_reducible exact Below.size (by assumption)) | omega | (simp <;> omega)) | (with_reducible exact Below.refl _ _) | (with_reducible exact Below.size (Below.drew (by assumption))) | (with_reducible assumption) | (with_reducible refine Below.alloc ?_ ?_ _) | (with_reducible refine Below.drew ?_) | (with_reducible refine lib_below_drewN ?_ _) | (with_reducible refine Below.setCell ?_ ?_ _) | (with_reducible refine below_then ?_ ?_ (by assumption)))))
        have Z1' := hid_mk Z1
        clear Z1 hZ0 hb1 c0 c1 c2 c3 c4 c5 c6 sc sf hP hS hT hO hG hZ
        obtain ⟨xc, xf⟩ := blk_facts X1
        have hmp : meetB xs[k].sp.s xs[k].sp.e s.s s.e = meetP xs[k] s := rfl
        rw [hmp]
        clear hmp
        cases hmt : meetP xs[k] s with
        | false =>
          rw [hmt] at ho1' hm1' ha1'
          clear hmt
          have hbl := Blk.new w1 xs[k].cells.toArray 32
          go_wp2_with (at_builtin; refine wpList_append I undP rfl _ _ rfl base _ (O1.out.alloc _) rfl (Rd.lit hbl) rfl (by simp; omega) (by simp; omega) ?_; (intro v' w2 hown hg1 hat))
          have hob := O1.out.base
          refine ⟨⟨k + 1, q, by omega, by go_num, ?_, ?_, ?_, ?_, ?_, ?_, ?_, ?_⟩, by simp [intOf]; omega⟩
          · exact hid_mk (by rw [ha1'.out, hq.out]; rfl)
          · exact hid_mk (by rw [ho1'.out]; exact hown)
          · exact hid_mk (by rw [hm1'.out]; simpa using (G1.out.alloc _).grown hg1 (fun b hb he => (O1.out.apart G1.out (by decide)) b he hb))
          · exact hid_mk ((Z1'.out.alloc (by omega) _).grown hg1 (by simp; omega) (fun b hb => Nat.le_trans hzb (hob b hb)))
          · exact hid_mk ((P1.out.alloc _).grown hg1 (fun he => by have := hob _ he; omega))
          · exact hid_mk ((S1.out.alloc _).grown hg1 (fun he => by have := hob _ he; omega))
          · exact hid_mk ((T1.out.alloc _).grown hg1 (fun he => by have := hob _ he; omega))
          · exact hid_mk (by have := hg1.size; simp at this; omega)
        | true =>
          rw [hmt] at ho1' hm1' ha1'
          clear hmt
          obtain ⟨pc, pf⟩ := blk_facts P1.out
          go_wp2_with fail
          refine (spanJoin _ _ _ _ _).mono ?_
          rintro e w2 ⟨rfl, hb2⟩
          have X2 := X1.below hb2
          have P2 := hid_mk (P1.out.below hb2)
          have S2 := hid_mk (S1.out.below hb2)
          have T2 := hid_mk (T1.out.below hb2)
          have O2 := hid_mk (O1.out.below hb2)
          have G2 := hid_mk (G1.out.below hb2)
          have Z1 := Z1'.out
          have hz2 := hb2.size
          have Z2 : Below w.heap.size w w2 := by
            refine below_then ?_ ?_ hb2
            (iterate 24 (try (first | (with_reducible exact Below.size (by assumption)) | ((with_reducible show (_ : Nat) ≤ _); (try simp only [drewN_heap]); first | (with_reducible exact Below.size (by assumption)) | omega | (simp <;> omega)) | (with_reducible exact Below.refl _ _) | (with_reducible exact Below.size (Below.drew (by assumption))) | (with_reducible assumption) | (with_reducible refine Below.alloc ?_ ?_ _) | (with_reducible refine Below.drew ?_) | (with_reducible refine lib_below_drewN ?_ _) | (with_reducible refine Below.setCell ?_ ?_ _) | (with_reducible refine below_then ?_ ?_ (by assumption)))))
          have Z2' := hid_mk Z2
          clear Z1 Z2 hb2 P1 S1 T1 O1 G1 Z1' xc xf pc pf X1
          obtain ⟨xc, xf⟩ := blk_facts X2
          obtain ⟨pc, pf⟩ := blk_facts P2.out
          have hXB : ¬ wr.heap.size = B := by omega
          have hBX : ¬ B = wr.heap.size := by omega
          go_wp2_with fail
          refine (aggMerge q.ag xs[k].ag _).mono ?_
          rintro e w3 ⟨rfl, hb3⟩
          have hgs := fun (W : World) => grown_trans (grown_set W B 1 (.int .i64 (minI q.sp.s xs[k].sp.s))) (grown_set (W.setCell ⟨B, 1, none⟩ (.int .i64 (minI q.sp.s xs[k].sp.s))) B 2 (.int .i64 (maxI q.sp.e xs[k].sp.e)))
          have hgs2 := hid_mk (hgs w2)
          clear hgs
          have P3 := hid_mk (P2.out.set_12.below hb3)
          have X3 := (X2.grown hgs2.out (by simp; omega)).below hb3
          have S3 := hid_mk ((S2.out.grown hgs2.out (by simp; omega)).below hb3)
          have T3 := hid_mk ((T2.out.grown hgs2.out (by simp; omega)).below hb3)
          have O3 := hid_mk (Own.below (O2.out.grown hgs2.out (fun b hb he => by
            have := O2.out.base b hb
            injection he; omega)) hb3)
          have G3 := hid_mk (Own.below (G2.out.grown hgs2.out (fun b hb he => by
            have := G2.out.base b hb
            injection he; omega)) hb3)
          have hz3 := hb3.size
          simp only [World.size_setCell] at hz3
          have Z3' := hid_mk (below_then (Z2'.out.grown hgs2.out (by have := Z2'.out.size; omega) (fun b hb => by injection hb; omega)) (by have := Z2'.out.size; have := hgs2.out.size; omega) hb3)
          clear hb3 P2 S2 T2 O2 G2 Z2' xc xf pc pf X2 hgs2
          obtain ⟨xc, xf⟩ := blk_facts X3
          obtain ⟨pc, pf⟩ := blk_facts P3.out
          generalize hag : q.ag.merge xs[k].ag = ag at *
          have hag' := hid_mk hag
          clear hag
          simp only [Agg.val]
          have hfin : ∀ W, World.grownBy W ((((W.setCell ⟨B, 3, none⟩ (.int .i64 ag.n)).setCell ⟨B, 4, none⟩ (.int .i64 ag.sum)).setCell ⟨B, 5, none⟩ (.int .i64 ag.lo)).setCell ⟨B, 6, none⟩ (.int .i64 ag.hi)) (some B) := fun W =>
            grown_trans (grown_trans (grown_trans (grown_set _ _ _ _) (grown_set _ _ _ _)) (grown_set _ _ _ _)) (grown_set _ _ _ _)
          have hg4 := hid_mk (hfin w3)
          clear hfin
          have P4 := hid_mk (P3.out.set_36 (a3 := .int .i64 ag.n) (a4 := .int .i64 ag.sum) (a5 := .int .i64 ag.lo) (a6 := .int .i64 ag.hi))
          have S4 := hid_mk (S3.out.grown hg4.out (by simp; omega))
          have T4 := hid_mk (T3.out.grown hg4.out (by simp; omega))
          have O4 := hid_mk (O3.out.grown hg4.out (fun b hb he => by
            have := O3.out.base b hb
            injection he; omega))
          have G4 := hid_mk (G3.out.grown hg4.out (fun b hb he => by
            have := G3.out.base b hb
            injection he; omega))
          have Z4 := hid_mk (Z3'.out.grown hg4.out (by have := Z3'.out.size; omega) (fun b hb => by injection hb; omega))
          have hbl := Blk.new ((((w3.setCell ⟨B, 3, none⟩ (.int .i64 ag.n)).setCell ⟨B, 4, none⟩ (.int .i64 ag.sum)).setCell ⟨B, 5, none⟩ (.int .i64 ag.lo)).setCell ⟨B, 6, none⟩ (.int .i64 ag.hi)) xs[k].sp.cells.toArray 28
          simp only [World.size_setCell] at hbl
          go_wp2_with (at_builtin; refine wpList_append J undS rfl _ _ rfl base _ (G4.out.alloc _) rfl (Rd.litS hbl) rfl (by simp; omega) (by simp; omega) ?_; (intro v' w5 hown hg1 hat))
          have hgb := G4.out.base
          refine ⟨⟨k + 1, ⟨q.key, ⟨minI q.sp.s xs[k].sp.s, maxI q.sp.e xs[k].sp.e⟩, ag⟩, by omega, by go_num, ?_, ?_, ?_, ?_, ?_, ?_, ?_, ?_⟩, by simp [intOf]; omega⟩
          · exact hid_mk (by rw [ha1'.out, ← hq.out, ← hag'.out]; rfl)
          · exact hid_mk (by rw [ho1'.out]; simpa using (O4.out.alloc _).grown hg1 (fun b hb he => (G4.out.apart O4.out (by decide)) b he hb))
          · exact hid_mk (by rw [hm1'.out]; simpa using hown)
          · exact hid_mk ((Z4.out.alloc (by have := Z4.out.size; omega) _).grown hg1 (by have := Z4.out.size; simp at this ⊢; omega) (fun b hb => Nat.le_trans hzb (hgb b hb)))
          · exact hid_mk ((P4.out.alloc _).grown hg1 (fun he => by have := hgb _ he; omega))
          · exact hid_mk ((S4.out.alloc _).grown hg1 (fun he => by have := hgb _ he; omega))
          · exact hid_mk ((T4.out.alloc _).grown hg1 (fun he => by have := hgb _ he; omega))
          · exact hid_mk (by have := hg1.size; simp at this; omega)
      · obtain rfl : k = xs.length := by omega
        rw [List.take_of_length_le (Nat.le_refl _)] at hq hO hG hlo hlm
        obtain ⟨tc, tf⟩ := blk_facts hT.out
        go_wp2_with fail
        refine (deleteS _ _ B q base _ hG.out (by simp; omega) hP.out (fun he => by have := hG.out.base _ he; omega)).mono ?_
        rintro e w1 ⟨v2, rfl, hG1, hg1⟩
        have hgb := hG.out.base
        have P1 := hid_mk (hP.out.grown hg1 (fun he => by have := hgb _ he; omega))
        have T1 := hid_mk (hT.out.grown hg1 (fun he => by have := hgb _ he; omega))
        have O1 := hid_mk (hO.out.grown hg1 (fun b hb he => (hG.out.apart hO.out (by decide)) b he hb))
        have G1 := hid_mk hG1
        have Z1 := hid_mk (hZ.out.grown hg1 (by have := hZ.out.size; omega) (fun b hb => Nat.le_trans hzb (hgb b hb)))
        have hz1 := hg1.size
        obtain ⟨pc, pf⟩ := blk_facts P1.out
        clear hg1 hG1 tc tf hP hT hO hG hZ hgb
        have hpl := placeP_le (outM xs s) q.sp
        go_wp2_with fail
        refine (paneAt _ (outM xs s) q.sp _ _ O1.out.rd (by omega) hpl (placeP_spec hs'.out q.sp)).mono ?_
        rintro e w2 ⟨rfl, hb2⟩
        have P2 := P1.out.below hb2
        have T2 := hid_mk (T1.out.below hb2)
        have O2 := hid_mk (O1.out.below hb2)
        have G2 := hid_mk (G1.out.below hb2)
        have Z1' := Z1.out
        have hz2 := hb2.size
        have Z2 : Below w.heap.size w w2 := by
          refine below_then ?_ ?_ hb2
          (iterate 24 (try (first | (with_reducible exact Below.size (by assumption)) | ((with_reducible show (_ : Nat) ≤ _); (try simp only [drewN_heap]); first | (with_reducible exact Below.size (by assumption)) | omega | (simp <;> omega)) | (with_reducible exact Below.refl _ _) | (with_reducible exact Below.size (Below.drew (by assumption))) | (with_reducible assumption) | (with_reducible refine Below.alloc ?_ ?_ _) | (with_reducible refine Below.drew ?_) | (with_reducible refine lib_below_drewN ?_ _) | (with_reducible refine Below.setCell ?_ ?_ _) | (with_reducible refine below_then ?_ ?_ (by assumption)))))
        have Z2' := hid_mk Z2
        clear Z1 Z2 Z1' hb2 P1 T1 O1 G1 pc pf
        go_wp2_with fail
        refine wp_region_sel [0, 1, 2, 5, 6, 7] [3, 4, 8, 9] 10 [] rfl (by kernel_rfl) (by kernel_rfl) (fun W => Blk W B (#[.string q.key, .int .i64 q.sp.s, .int .i64 q.sp.e, .int .i64 q.ag.n, .int .i64 q.ag.sum, .int .i64 q.ag.lo, .int .i64 q.ag.hi] : Array Value) 32) P2.drew ?_
        simp only [pickOps, List.getElem?_cons_zero, List.getElem?_cons_succ]
        go_big_quiet_step ((fail))
        go_big_quiet_step ((fail))
        go_big_quiet_want
        refine ⟨.agg #[.string q.key, .int .i64 q.sp.s, .int .i64 q.sp.e, .int .i64 q.ag.n, .int .i64 q.ag.sum, .int .i64 q.ag.lo, .int .i64 q.ag.hi], fun W hW => ?_, ?_⟩
        · obtain ⟨hc, hf⟩ := blk_facts hW
          go_simp
        go_simp
        go_big_quiet_on
        go_big_quiet_step ((fail))
        go_big_quiet_want
        refine ⟨.pointer (some ⟨B, 1, none⟩), fun W hW => ?_, ?_⟩
        · skip
          go_simp
        go_simp
        go_big_quiet_on
        go_big_quiet_want
        refine ⟨.agg #[.int .i64 q.sp.s, .int .i64 q.sp.e], fun W hW => ?_, ?_⟩
        · obtain ⟨hc, hf⟩ := blk_facts hW
          go_simp
        go_simp
        go_big_quiet_on
        refine wpQuiet_nil ?_
        intro rest hr
        refine wpPin_loud _ rfl ?_
        rintro W rfl
        go_wp2_with fail
        refine ⟨fun W => _ = W, rfl, fun W hW => by rw [← hW]; exact P2.drew.alloc _, ?_⟩
        refine wpPin_loud _ rfl ?_
        rintro W rfl
        go_wp2_with fail
        have hO4 := (O2.out.alloc (.cells (#[.string q.key, .int .i64 q.sp.s, .int .i64 q.sp.e, .int .i64 q.ag.n, .int .i64 q.ag.sum, .int .i64 q.ag.lo, .int .i64 q.ag.hi] : Array Value) 32)).drew
        have B4 := (Blk.new w2 q.cells.toArray 32).drew
        have hob := O2.out.base
        refine (insertP _ (outM xs s) _ base w2.heap.size q _ hpl hO4 (by simp; omega) (by omega) B4 (fun he => absurd (O2.out.lt _ he) (Nat.lt_irrefl _))).mono ?_
        rintro e w5 ⟨v1, rfl, hO5, hg5⟩
        have P5 := ((P2.alloc (.cells (#[.string q.key, .int .i64 q.sp.s, .int .i64 q.sp.e, .int .i64 q.ag.n, .int .i64 q.ag.sum, .int .i64 q.ag.lo, .int .i64 q.ag.hi] : Array Value) 32)).drew).grown hg5 (fun he => by have := hob _ he; omega)
        have T5 := ((T2.out.alloc (.cells (#[.string q.key, .int .i64 q.sp.s, .int .i64 q.sp.e, .int .i64 q.ag.n, .int .i64 q.ag.sum, .int .i64 q.ag.lo, .int .i64 q.ag.hi] : Array Value) 32)).drew).grown hg5 (fun he => by have := hob _ he; omega)
        have G5 := hid_mk (((G2.out.alloc (.cells (#[.string q.key, .int .i64 q.sp.s, .int .i64 q.sp.e, .int .i64 q.ag.n, .int .i64 q.ag.sum, .int .i64 q.ag.lo, .int .i64 q.ag.hi] : Array Value) 32)).drew).grown hg5 (fun b hb he => (O2.out.apart G2.out (by decide)) b he hb))
        have Z4 := Below.drew (Z2'.out.alloc (by have := Z2'.out.size; omega) (.cells (#[.string q.key, .int .i64 q.sp.s, .int .i64 q.sp.e, .int .i64 q.ag.n, .int .i64 q.ag.sum, .int .i64 q.ag.lo, .int .i64 q.ag.hi] : Array Value) 32))
        have Z5 := hid_mk (Z4.grown hg5 (by have := Z2'.out.size; simp; omega) (fun b hb => Nat.le_trans hzb (hob b hb)))
        have O5 := hid_mk hO5
        clear hO5 hg5 hO4 B4 O2 G2 T2 Z2' Z4 hob
        obtain ⟨tc, tf⟩ := blk_facts T5
        go_wp2_with fail
        refine ⟨fun W => _ = W, rfl, fun W hW => by rw [← hW]; exact P5, ?_⟩
        refine wpPin_loud _ rfl ?_
        rintro W rfl
        go_wp2_with fail
        refine ⟨fun W => _ = W, rfl, fun W hW => by rw [← hW]; exact P5, ?_⟩
        refine wpPin_loud _ rfl ?_
        rintro W rfl
        go_wp2_with fail
        refine ⟨fun W => _ = W, rfl, fun W hW => by rw [← hW]; exact P5, ?_⟩
        refine hr _ _ ?_
        rintro W rfl
        go_wp2_with fail
        refine NoPanic.normal ?_
        go_wp2
        have hne5 := T5.lt
        refine bodyPost_ret (v := .tuple #[v1, v2, .agg #[.int .i64 q.sp.s, .int .i64 q.sp.e]]) ?_ rfl ⟨v1, v2, ?_, ?_, ?_, ?_⟩
        · simp [results, Try.results26, go_sem, *]
        · rw [← hq.out]
        · rw [← hq.out]
          refine ((O5.out.setOther ?_).setOther ?_).lower hzb
          · exact fun he => by have := O5.out.base _ he; simp at this; omega
          · exact fun he => by have := O5.out.base _ he; simp at this; omega
        · rw [← hq.out]
          refine ((G5.out.setOther ?_).setOther ?_).lower hzb
          · exact fun he => by have := G5.out.base _ he; simp at this; omega
          · exact fun he => by have := G5.out.base _ he; simp at this; omega
        · have Z6 := Z5.out
          (iterate 24 (try (first | (with_reducible exact Below.size (by assumption)) | ((with_reducible show (_ : Nat) ≤ _); (try simp only [drewN_heap]); first | (with_reducible exact Below.size (by assumption)) | omega | (simp <;> omega)) | (with_reducible exact Below.refl _ _) | (with_reducible exact Below.size (Below.drew (by assumption))) | (with_reducible assumption) | (with_reducible refine Below.alloc ?_ ?_ _) | (with_reducible refine Below.drew ?_) | (with_reducible refine lib_below_drewN ?_ _) | (with_reducible refine Below.setCell ?_ ?_ _) | (with_reducible refine below_then ?_ ?_ (by assumption)))))
end Go.Proofs.Ytkmjehodmfnihaa
