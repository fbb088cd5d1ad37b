/-
  slices.IndexFunc and slices.DeleteFunc of windows, by pane.Merge's closure: all that are the pane's window are taken out.
-/
import Derived.Test.YtkmjehodmfnihaaSet
set_option linter.unusedSimpArgs false
set_option linter.unusedVariables false
namespace Go.Proofs.Ytkmjehodmfnihaa
open Go.RowKit

set_option maxRecDepth 100000 in
set_option maxHeartbeats 400000 in
theorem merge1 (x : Span) (b : Nat) (p : Pane) (w : World) (hb : Blk w b (#[.string p.key, .int .i64 p.sp.s, .int .i64 p.sp.e, .int .i64 p.ag.n, .int .i64 p.ag.sum, .int .i64 p.ag.lo, .int .i64 p.ag.hi] : Array Value) 32) :
    Calls Try.prog 40 #[x.val, .pointer (some ⟨b, 0, none⟩)] w fun e w' => e = .returned (.bool (decide (x = p.sp))) ∧ Below w.heap.size w w' := by
  have heq := fun W => eqlS x p.sp W
  have hg := eqgS
  simp only [Span.val] at heq ⊢
  have hl := hb.lt
  obtain ⟨tc, tf⟩ := blk_facts hb
  go_enter Try.func40, Try.ntmps40
  go_wp2
  go_ret
  refine ⟨rfl, ?_⟩
  (iterate 24 (try (first | (with_reducible exact Below.size (by assumption)) | ((with_reducible show (_ : Nat) ≤ _); (try simp only [drewN_heap]); first | (with_reducible exact Below.size (by assumption)) | omega | (simp <;> omega)) | (with_reducible exact Below.refl _ _) | (with_reducible exact Below.size (Below.drew (by assumption))) | (with_reducible assumption) | (with_reducible refine Below.alloc ?_ ?_ _) | (with_reducible refine Below.drew ?_) | (with_reducible refine lib_below_drewN ?_ _) | (with_reducible refine Below.setCell ?_ ?_ _) | (with_reducible refine below_then ?_ ?_ (by assumption)))))

/-- the two cells of window j -/
theorem Rd.span {w : World} {A : Option Addr} {n c : Nat} {xs : List Span} (h : Rd encS w (.slice A n c) xs) {j : Nat} (hj : j < xs.length) : ∃ b off, A = some ⟨b, off, none⟩ ∧ b < w.heap.size ∧
    w.cell? ⟨b, off + j * 2, none⟩ = some (.int .i64 xs[j].s) ∧ w.cell? ⟨b, off + j * 2 + 1, none⟩ = some (.int .i64 xs[j].e) := by
  obtain ⟨b, off, hA, hb, hc⟩ := h.elem hj
  exact ⟨b, off, hA, hb, hc 0 _ rfl, hc 1 _ rfl⟩

/-- the place L, or -1 if it is behind all -/
def foundI (L n : Nat) : Int := if L < n then L else -1
set_option maxRecDepth 100000 in
set_option maxHeartbeats 400000 in
theorem indexS (v : Value) (xs : List Span) (b : Nat) (p : Pane) (L : Nat) (w : World) (hR : Rd encS w v xs) (hlen : xs.length ≤ 1000000) (hb : Blk w b (#[.string p.key, .int .i64 p.sp.s, .int .i64 p.sp.e, .int .i64 p.ag.n, .int .i64 p.ag.sum, .int .i64 p.ag.lo, .int .i64 p.ag.hi] : Array Value) 32)
    (hL : L ≤ xs.length) (hno : ∀ k (h : k < xs.length), k < L → decide (xs[k] = p.sp) = false) (hyes : ∀ h : L < xs.length, decide (xs[L] = p.sp) = true) :
    Calls Try.prog 51 #[v, .func (.func 40) #[] #[.pointer (some ⟨b, 0, none⟩)]] w fun e w' => e = .returned (.int .i64 (foundI L xs.length)) ∧ Below w.heap.size w w' := by
  obtain ⟨A, c, rfl, _⟩ := hR.slice
  have hR' := hid_mk hR
  have hb' := hid_mk hb
  have hno' := hid_mk hno
  have hyes' := hid_mk hyes
  clear hR hb hno hyes
  have hbl := hb'.out.lt
  go_enter Try.func51, Try.ntmps51
  go_wp2
  go_loopw [8] (fun i wr => ∃ k : Nat, k ≤ L ∧ i = .int .i64 k ∧ Hid (Below w.heap.size w wr)) (fun i _ => xs.length - (intOf i).toNat)
  case atStart => exact ⟨0, Nat.zero_le _, rfl, hid_mk (Below.refl _ _)⟩
  case round =>
    obtain ⟨k, hk, rfl, hB⟩ := hrel
    have hRr := hid_mk (hR'.out.below hB.out)
    have hz := hB.out.size
    by_cases hlt : k < xs.length
    · obtain ⟨b', off, rfl, hbk, c0, c1⟩ := hRr.out.span (j := k) hlt
      have hd : Hid (decide (xs[k] = p.sp) = decide (k = L)) := hid_mk (by
        by_cases h : k = L
        · subst h; rw [hyes'.out hlt]; simp
        · rw [hno'.out k hlt (by omega)]; simp [h])
      go_wp2_with fail
      refine (merge1 xs[k] b p _ (hb'.out.below hB.out)).mono ?_
      rintro e w1 ⟨rfl, hb1⟩
      have hB0 := hB.out
      have Z1 : Below w.heap.size w w1 := by
        refine below_then ?_ ?_ hb1
        (iterate 24 (try (first | (with_reducible exact Below.size (by assumption)) | ((with_reducible show (_ : Nat) ≤ _); (try simp only [drewN_heap]); first | (with_reducible exact Below.size (by assumption)) | omega | (simp <;> omega)) | (with_reducible exact Below.refl _ _) | (with_reducible exact Below.size (Below.drew (by assumption))) | (with_reducible assumption) | (with_reducible refine Below.alloc ?_ ?_ _) | (with_reducible refine Below.drew ?_) | (with_reducible refine lib_below_drewN ?_ _) | (with_reducible refine Below.setCell ?_ ?_ _) | (with_reducible refine below_then ?_ ?_ (by assumption)))))
      have hZ1 := hid_mk Z1
      clear hb1 c0 c1 Z1 hB0
      rw [hd.out]
      by_cases hkL : k = L
      · subst hkL
        have hd1 : decide (k = k) = true := by simp
        rw [hd1]
        go_wp2
        go_ret
        exact ⟨by unfold foundI; rw [if_pos hlt]; rfl, hZ1.out⟩
      · have hd1 : decide (k = L) = false := by simp [hkL]
        rw [hd1]
        go_wp2
        exact ⟨⟨k + 1, by omega, by go_num, hZ1⟩, by simp [intOf]; omega⟩
    · go_wp2
      go_ret
      exact ⟨by unfold foundI; rw [if_neg (by omega)]; rfl, hB.out⟩

theorem grown_below {w w' : World} (h : Below w.heap.size w w') (o : Option Nat) : w.grownBy w' o := ⟨h.os, h.tape, h.output, h.size, fun k hk _ => h.block k hk⟩
theorem grown_trans {w w1 w2 : World} {o : Option Nat} (h : w.grownBy w1 o) (k : w1.grownBy w2 o) : w.grownBy w2 o :=
  ⟨k.os.trans h.os, k.tape.trans h.tape, k.output.trans h.output, Nat.le_trans h.size k.size, fun i hi hne => (k.block i (Nat.lt_of_lt_of_le hi h.size) hne).trans (h.block i hi hne)⟩
theorem grown_alloc (w : World) (x : Obj) (o : Option Nat) : w.grownBy (w.alloc x) o := grown_below ((Below.refl _ _).alloc (Nat.le_refl _) _) o
theorem grown_set (w : World) (g i : Nat) (u : Value) : w.grownBy (w.setCell ⟨g, i, none⟩ u) (some g) :=
  ⟨rfl, rfl, rfl, by simp [World.setCell], fun k _ hne => Below.heap_setCell w _ u k (by rintro rfl; exact hne rfl)⟩
theorem Blk.grown {w w' : World} {b : Nat} {cs : Array Value} {t : TypeId} {o : Option Nat} (h : Blk w b cs t) (hg : w.grownBy w' o) (hne : o ≠ some b) : Blk w' b cs t := (hg.block b h.lt (fun e => hne e.symm)).trans h
theorem flat_setS (xs : List Span) (i : Nat) (hi : i < xs.length) (x : Span) : ((encS.flat xs).set (i * 2) (.int .i64 x.s)).set (i * 2 + 1) (.int .i64 x.e) = encS.flat (xs.set i x) := by
  have hx : xs = xs.take i ++ xs[i] :: xs.drop (i + 1) := by rw [List.getElem_cons_drop, List.take_append_drop]
  have hl : (encS.flat (xs.take i)).length = i * 2 := by rw [Enc.flat_length]; simp [encS]; omega
  have hs : xs.set i x = xs.take i ++ x :: xs.drop (i + 1) := by rw [List.set_eq_take_append_cons_drop, if_pos hi]
  rw [hs]
  have hf : encS.flat xs = encS.flat (xs.take i) ++ (xs[i].cells ++ encS.flat (xs.drop (i + 1))) := by
    conv => lhs; rw [hx]
    rw [Enc.flat_append, Enc.flat_cons]; rfl
  have hf2 : encS.flat (xs.take i ++ x :: xs.drop (i + 1)) = encS.flat (xs.take i) ++ (x.cells ++ encS.flat (xs.drop (i + 1))) := by
    rw [Enc.flat_append, Enc.flat_cons]; rfl
  rw [hf, hf2]
  generalize encS.flat (xs.take i) = A at *
  generalize encS.flat (xs.drop (i + 1)) = B at *
  rw [← hl]
  simp [List.set_append_right, Span.cells]
/-- without the windows that are s -/
def dropS (xs : List Span) (s : Span) : List Span := xs.filter fun x => !decide (x = s)

set_option maxRecDepth 100000 in
set_option maxHeartbeats 400000 in
theorem deleteS (v : Value) (xs : List Span) (b : Nat) (p : Pane) (base : Nat) (w : World) (hO : Own encS 28 w base v xs) (hlen : xs.length ≤ 1000000) (hb : Blk w b (#[.string p.key, .int .i64 p.sp.s, .int .i64 p.sp.e, .int .i64 p.ag.n, .int .i64 p.ag.sum, .int .i64 p.ag.lo, .int .i64 p.ag.hi] : Array Value) 32) (hne : v.ownBlock ≠ some b) :
    Calls Try.prog 39 #[v, .func (.func 40) #[] #[.pointer (some ⟨b, 0, none⟩)]] w fun e w' => ∃ v', e = .returned v' ∧ Own encS 28 w' base v' (dropS xs p.sp) ∧ w.grownBy w' v.ownBlock := by
  obtain ⟨I⟩ := infoS
  have hO' := hid_mk hO
  have hb' := hid_mk hb
  have hne' := hid_mk hne
  clear hO hb hne
  obtain ⟨L, hLdef⟩ : ∃ L, L = xs.findIdx fun x => decide (x = p.sp) := ⟨_, rfl⟩
  have hL : L ≤ xs.length := by rw [hLdef]; exact List.findIdx_le_length
  have hno : ∀ k (h : k < xs.length), k < L → decide (xs[k] = p.sp) = false := fun k h hk => by
    have := List.not_of_lt_findIdx (p := fun x => decide (x = p.sp)) (xs := xs) (i := k) (by rw [← hLdef]; exact hk)
    simpa using this
  have hyes : ∀ h : L < xs.length, decide (xs[L] = p.sp) = true := fun h => by
    subst hLdef
    exact List.findIdx_getElem (w := h)
  have hno' := hid_mk hno
  have hyes' := hid_mk hyes
  clear hno hyes hLdef
  obtain ⟨A, c, rfl, _⟩ := hO'.out.rd.slice
  go_enter Try.func39, Try.ntmps39
  go_wp2_with fail
  refine (indexS _ xs b p L _ hO'.out.rd hlen hb'.out hL hno'.out hyes'.out).mono ?_
  rintro e w1 ⟨rfl, hb1⟩
  by_cases hlt : L < xs.length
  · have hf : foundI L xs.length = (L : Int) := by unfold foundI; rw [if_pos hlt]
    rw [hf]
    have hn1 : ((L : Int) == -1) = false := by simp
    clear hf
    obtain ⟨g, cap, cur, hv, hbg, _, hcap1, hcap2, _⟩ := hO'.out.row (by omega)
    simp only [Value.slice.injEq, true_and] at hv
    obtain ⟨rfl, rfl⟩ := hv
    have hgb : (some g : Option Nat) ≠ some b := hne'.out
    have hgr1 : Hid (w.grownBy w1 (some g)) := hid_mk (grown_below hb1 _)
    have hO1 : Hid (Own encS 28 w1 base (.slice (some ⟨g, 0, none⟩) xs.length c) xs) := hid_mk (hO'.out.below hb1)
    have hyL := hyes'.out hlt
    have hxL : dropS (xs.take (L + 1)) p.sp = xs.take L := by
      unfold dropS
      rw [List.take_succ_eq_append_getElem hlt, List.filter_append]
      simp only [List.filter_cons, hyL, List.filter_nil, Bool.not_true]
      simp only [Bool.false_eq_true, if_false, List.append_nil]
      rw [List.filter_eq_self]
      intro x hx
      obtain ⟨k, hk, rfl⟩ := List.getElem_of_mem hx
      simp at hk
      rw [List.getElem_take, hno'.out k (by omega) (by omega)]; rfl
    have hxL' := hid_mk hxL
    clear hxL hb1 hyL
    unfold maxLen at hcap2
    go_wp2
    go_loopw [5, 6] (fun ti tj wr => ∃ (i j : Nat) (ys : List Span), i < j ∧ j ≤ xs.length ∧ ti = .int .i64 i ∧ tj = .int .i64 j ∧ Hid (ys.length = xs.length) ∧ Hid (Own encS 28 wr base (.slice (some ⟨g, 0, none⟩) ys.length c) ys)
      ∧ Hid (ys.take i = dropS (xs.take j) p.sp) ∧ Hid (ys.drop j = xs.drop j) ∧ Hid (w.grownBy wr (some g))) (fun _ j _ => xs.length - (intOf j).toNat)
    case atStart => exact ⟨L, L + 1, xs, by omega, by omega, rfl, by go_num, hid_mk rfl, hO1, hid_mk hxL'.out.symm, hid_mk rfl, hgr1⟩
    case round =>
      obtain ⟨i, j, ys, hij, hj, rfl, rfl, hyl, hOy, hyt, hyd, hgr⟩ := hrel
      have hOy' : Hid (Own encS 28 wr base (.slice (some ⟨g, 0, none⟩) xs.length c) ys) := hid_mk (by rw [← hyl.out]; exact hOy.out)
      clear hOy
      by_cases hjn : j < xs.length
      · have hjy : j < ys.length := by rw [hyl.out]; exact hjn
        have hiy : i < ys.length := by rw [hyl.out]; omega
        have hxy : ys[j] = xs[j] := by
          have h1 := congrArg (fun l => l[0]?) hyd.out
          simp only [List.getElem?_drop, Nat.add_zero] at h1
          rw [List.getElem?_eq_getElem hjy, List.getElem?_eq_getElem hjn] at h1
          exact Option.some.inj h1
        obtain ⟨kb, off, hA, hkb, c0, c1⟩ := hOy'.out.rd.span hjy
        simp only [Option.some.injEq, Addr.mk.injEq, and_true] at hA
        obtain ⟨rfl, rfl⟩ := hA
        simp only [Nat.zero_add, hxy] at c0 c1
        have hxy' := hid_mk hxy
        clear hxy
        have hbr : Hid (Blk wr b (#[.string p.key, .int .i64 p.sp.s, .int .i64 p.sp.e, .int .i64 p.ag.n, .int .i64 p.ag.sum, .int .i64 p.ag.lo, .int .i64 p.ag.hi] : Array Value) 32) := hid_mk (hb'.out.grown hgr.out hgb)
        go_wp2_with fail
        refine (merge1 xs[j] b p _ (hbr.out.alloc _)).mono ?_
        rintro e w2 ⟨rfl, hb2⟩
        have hB2 : Blk w2 wr.heap.size #[.int .i64 xs[j].s, .int .i64 xs[j].e] 28 := (Blk.new _ _ _).below hb2
        have hgr2 : Hid (w.grownBy w2 (some g)) := hid_mk (grown_trans hgr.out (grown_trans (grown_alloc _ _ _) (grown_below hb2 _)))
        have hO2 : Hid (Own encS 28 w2 base (.slice (some ⟨g, 0, none⟩) xs.length c) ys) := hid_mk (Own.below (hOy'.out.alloc _) hb2)
        obtain ⟨_, _, hA2, _, d0, d1⟩ := hO2.out.rd.span hiy
        simp only [Option.some.injEq, Addr.mk.injEq, and_true] at hA2
        obtain ⟨rfl, rfl⟩ := hA2
        simp only [Nat.zero_add] at d0 d1
        obtain ⟨g', cap', cur2, hv2, _, hh2, _⟩ := hO2.out.row (by omega)
        simp only [Value.slice.injEq, Option.some.injEq, Addr.mk.injEq, true_and, and_true] at hv2
        obtain ⟨rfl, hq2, rfl⟩ := hv2
        clear hq2
        have hfz : ∀ i, w2.frozen? ⟨g, i, none⟩ = false := fun i => by simp [World.frozen?, hh2]
        obtain ⟨tc, tf⟩ := blk_facts hB2
        have hts : Hid (xs.take (j + 1) = xs.take j ++ [xs[j]]) := hid_mk (List.take_succ_eq_append_getElem hjn)
        have hds : Hid (ys.drop (j + 1) = xs.drop (j + 1)) := hid_mk (by
          have := congrArg (List.drop 1) hyd.out
          simpa [List.drop_drop] using this)
        have hgn : g ≠ wr.heap.size := by omega
        clear c0 c1 hb2 hB2 hh2
        by_cases he : xs[j] = p.sp
        · have hd : decide (xs[j] = p.sp) = true := by simpa using he
          have hn : Hid (ys.take i = dropS (xs.take (j + 1)) p.sp) := hid_mk (by
            rw [hts.out, hyt.out]
            unfold dropS
            rw [List.filter_append]
            simp [he])
          clear he
          rw [hd]
          go_wp2
          exact ⟨⟨i, j + 1, ys, by omega, by omega, rfl, by go_num, hyl, hid_mk (by rw [hyl.out]; exact hO2.out), hn, hds, hgr2⟩, by simp [intOf]; omega⟩
        · have hd : decide (xs[j] = p.sp) = false := by simpa using he
          have hn : Hid ((ys.set i xs[j]).take (i + 1) = dropS (xs.take (j + 1)) p.sp) := hid_mk (by
            have h1 : (dropS (xs.take j) p.sp).length = i := by rw [← hyt.out]; simp; omega
            rw [hts.out]
            unfold dropS at h1 hyt ⊢
            rw [List.filter_append, ← hyt.out]
            simp [he]
            rw [List.take_succ_eq_append_getElem (by simpa using hiy), List.take_set_of_le (Nat.le_refl _)]
            simp)
          clear he
          rw [hd]
          go_wp2
          have hO3 : Hid (Own encS 28 ((w2.setCell ⟨g, i * 2, none⟩ (.int .i64 xs[j].s)).setCell ⟨g, i * 2 + 1, none⟩ (.int .i64 xs[j].e)) base (.slice (some ⟨g, 0, none⟩) (ys.set i xs[j]).length c) (ys.set i xs[j])) := hid_mk (by
            have h3 := hO2.out
            rw [← hyl.out] at h3
            have o := ownsRow_set (ownsRow_set h3 (i * 2) (.int .i64 xs[j].s)) (i * 2 + 1) (.int .i64 xs[j].e)
            rw [flat_setS ys i hiy xs[j]] at o
            unfold Own
            rw [List.length_set]
            exact o)
          have hl3 : Hid ((ys.set i xs[j]).length = xs.length) := hid_mk (by rw [List.length_set, hyl.out])
          have hd3 : Hid ((ys.set i xs[j]).drop (j + 1) = xs.drop (j + 1)) := hid_mk (by rw [List.drop_set_of_lt (by omega), hds.out])
          have hg3 : Hid (w.grownBy ((w2.setCell ⟨g, i * 2, none⟩ (.int .i64 xs[j].s)).setCell ⟨g, i * 2 + 1, none⟩ (.int .i64 xs[j].e)) (some g)) := hid_mk (grown_trans (grown_trans hgr2.out (grown_set _ _ _ _)) (grown_set _ _ _ _))
          exact ⟨⟨i + 1, j + 1, _, by omega, by omega, by go_num, by go_num, hl3, hO3, hn, hd3, hg3⟩, by simp [intOf]; omega⟩
      · obtain rfl : j = xs.length := by omega
        have hiy : i < ys.length := by rw [hyl.out]; exact hij
        obtain ⟨g', cap', cur2, hv2, _, hh2, hcc1, _, hcc, hct⟩ := hOy'.out.row (by omega)
        simp only [Value.slice.injEq, Option.some.injEq, Addr.mk.injEq, true_and, and_true] at hv2
        obtain ⟨rfl, hq2, rfl⟩ := hv2
        clear hq2
        have hh2' := hid_mk hh2
        have hcc' := hid_mk hcc
        have hct' := hid_mk hct
        have hk2 : encS.k = 2 := rfl
        rw [hyl.out] at hcc1
        have hcs : cur2.size = c * 2 := hcc
        clear hh2 hcc hct
        have hfr : ∀ i, wr.frozen? ⟨g, i, none⟩ = false := fun i => by simp [World.frozen?, hh2'.out]
        obtain ⟨Z, hZ, hcl0⟩ := run_clearRow (P := Try.prog) (w := wr) (T := 28) (t := 45) I (info_one oneSpan I) undS 0 g (i * 2) (xs.length - i) (c - i) (by omega) cur2 28 hh2'.out (by rw [hcs, hk2]; omega)
        obtain ⟨W2, hcl, g2, hgr3⟩ : ∃ W2, (Builtin.clear_ #[45] 0 #[.slice (some ⟨g, i * 2, none⟩) (xs.length - i) (c - i)]).run Try.prog wr = .ok (.tuple #[]) W2 ∧
            Hid (W2.heap[g]? = some (.cells (cur2.toList.take (i * 2) ++ Z ++ cur2.toList.drop (i * 2 + (xs.length - i) * encS.k)).toArray 28 (0, 0))) ∧ Hid (w.grownBy W2 (some g)) :=
          ⟨_, hcl0, hid_mk (setRow_heap _ _ _ _ _ _ hh2'.out), hid_mk (grown_trans hgr.out ⟨rfl, rfl, rfl, by simp [World.setRow], fun k _ hk => setRow_other _ _ _ _ (by rintro rfl; exact hk rfl)⟩)⟩
        clear hcl0
        have hci : ¬ c = i := by omega
        go_wp2
        go_ret
        have hdl : (dropS xs p.sp).length = i := by
          have := congrArg List.length hyt.out
          rw [List.take_of_length_le (Nat.le_refl _)] at this
          rw [← this]; simp; omega
        refine ⟨_, rfl, ⟨?_, .inr ⟨g, c, _, by rw [hdl]; rfl, hbg, g2.out, by rw [hdl]; omega, by unfold maxLen; omega, ?_, ?_⟩⟩, hgr3.out⟩
        · rw [Enc.flat_length]
        · simp only [List.size_toArray, List.length_append, List.length_take, List.length_drop, Array.length_toList, hcs, hZ, hk2]; omega
        · rw [hdl, hk2]
          have h1 : dropS xs p.sp = ys.take i := by rw [hyt.out, List.take_of_length_le (Nat.le_refl _)]
          rw [h1, Enc.flat_take, ← hct'.out, List.take_take, hk2]
          simp only []
          rw [List.append_assoc, List.take_append_of_le_length (by rw [List.length_take, Array.length_toList, hcs]; omega), List.take_take, Nat.min_self, Nat.min_eq_left (by omega)]
  · have hf : foundI L xs.length = (-1 : Int) := by unfold foundI; rw [if_neg hlt]
    have hd : Hid (dropS xs p.sp = xs) := hid_mk (by
      unfold dropS
      rw [List.filter_eq_self]
      intro x hx
      obtain ⟨k, hk, rfl⟩ := List.getElem_of_mem hx
      rw [hno'.out k hk (by omega)]; rfl)
    rw [hf]
    clear hf
    go_wp2
    go_ret
    refine ⟨_, rfl, ?_, grown_below hb1 _⟩
    rw [hd.out]
    exact hO'.out.below hb1
end Go.Proofs.Ytkmjehodmfnihaa
