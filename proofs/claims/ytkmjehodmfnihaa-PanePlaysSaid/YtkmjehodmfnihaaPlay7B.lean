/-
  PanePlays: a round (0).
-/
import Derived.Test.YtkmjehodmfnihaaPlay7A
set_option linter.unusedSimpArgs false
set_option linter.unusedVariables false
namespace Go.Proofs.Ytkmjehodmfnihaa
open Go.RowKit

set_option maxRecDepth 100000 in
set_option maxHeartbeats 40000000 in
theorem round7_0 : Round7 0 := by
  intro ds key w A c Q u wr mm i m hR0 hfit0 hbig hQ hlt h7 hRm0 hs0 hks0 hmi0 hZ0 hmm' hpk0
  obtain ⟨I⟩ := infoP
  obtain ⟨J⟩ := infoS
  have hfd := hfit0 ds[i] (List.getElem_mem hlt)
  have hR'0 := hid_mk hR0
  have hQ' := hid_mk hQ
  have hRm := hid_mk hRm0
  have hs := hid_mk hs0
  have hks := hid_mk hks0
  have hmi := hid_mk hmi0
  have hZ := hid_mk hZ0
  obtain ⟨_, _, hv, _, hml, _⟩ := hR0.out
  clear hR0 hfit0 hRm0 hs0 hks0 hmi0 hZ0 hQ hv
  unfold maxLen at hml
  unfold play7Body
  conv => arg 2; whnf
  dsimp only
  rw [h7]
  clear h7
  have hR2 := hid_mk (hR'0.out.below hZ.out)
  obtain ⟨db, do', rfl, hdb, e0, e1, e2, e3⟩ := hR2.out.deed hlt
  generalize ds[i] = d at *
  obtain ⟨Am, cm, hm6, _⟩ := hRm.out.slice
  rw [hm6] at hRm ⊢
  have hml2 := hmi.out
  have hZs := hZ.out.size
  go_upto_region 9 with fail
  go_cut [9] from 49 to 56 (fun s9 wx => ∃ B : Nat, s9 = .pointer (some ⟨B, 0, none⟩) ∧ wr.heap.size < B ∧ Hid (Below wr.heap.size wr wx) ∧ Hid (Blk wx B (#[.string (Pane.mk key d.s (Agg.one d.v)).key, .int .i64 (Pane.mk key d.s (Agg.one d.v)).sp.s, .int .i64 (Pane.mk key d.s (Agg.one d.v)).sp.e, .int .i64 (Pane.mk key d.s (Agg.one d.v)).ag.n, .int .i64 (Pane.mk key d.s (Agg.one d.v)).ag.sum, .int .i64 (Pane.mk key d.s (Agg.one d.v)).ag.lo, .int .i64 (Pane.mk key d.s (Agg.one d.v)).ag.hi] : Array Value) 32) ∧ Hid (Blk wx wr.heap.size #[.int .i64 d.what, .int .i64 d.s.s, .int .i64 d.s.e, .int .i64 d.v] 43))
  case first =>
    have hB1 := Blk.new wr #[.int .i64 d.what, .int .i64 d.s.s, .int .i64 d.s.e, .int .i64 d.v] 43
    have hZ0 : Below wr.heap.size wr (wr.alloc (.cells #[.int .i64 d.what, .int .i64 d.s.s, .int .i64 d.s.e, .int .i64 d.v] 43)) := (Below.refl _ _).alloc (Nat.le_refl _) _
    have hsz : wr.heap.size < (wr.alloc (.cells #[.int .i64 d.what, .int .i64 d.s.s, .int .i64 d.s.e, .int .i64 d.v] 43)).heap.size := by simp
    generalize wr.alloc (.cells #[.int .i64 d.what, .int .i64 d.s.s, .int .i64 d.s.e, .int .i64 d.v] 43) = W0 at *
    refine wp_region_float [0, 1, 2, 3, 4] [6] [8] 5 7 rfl (by kernel_rfl) (by kernel_rfl) (fun W => Blk W wr.heap.size #[.int .i64 d.what, .int .i64 d.s.s, .int .i64 d.s.e, .int .i64 d.v] 43) hB1.drew ?_
    simp only [pickOps, List.getElem?_cons_zero, List.getElem?_cons_succ]
    go_big_quiet_step ((fail))
    go_big_quiet_want
    refine ⟨.pointer (some ⟨wr.heap.size, 1, none⟩), fun W hW => ?_, ?_⟩
    · skip
      go_simp
    go_simp
    go_big_quiet_on
    go_big_quiet_want
    refine ⟨.agg #[.int .i64 d.s.s, .int .i64 d.s.e], fun W hW => ?_, ?_⟩
    · obtain ⟨hc, hf⟩ := blk_facts hW
      go_simp
    go_simp
    go_big_quiet_on
    go_big_quiet_want
    refine ⟨.pointer (some ⟨wr.heap.size, 3, none⟩), fun W hW => ?_, ?_⟩
    · skip
      go_simp
    go_simp
    go_big_quiet_on
    go_big_quiet_want
    refine ⟨.int .i64 d.v, fun W hW => ?_, ?_⟩
    · obtain ⟨hc, hf⟩ := blk_facts hW
      go_simp
    go_simp
    go_big_quiet_on
    refine wpQuiet_nil ?_
    constructor
    · refine wpPin_loud _ rfl ?_
      rintro W rfl
      go_wp2_with fail
      refine ⟨fun W => _ = W, rfl, fun W hW => by rw [← hW]; exact hB1.drew.alloc _, ?_⟩
      refine wpPin_loud _ rfl ?_
      rintro W rfl
      go_wp2_with fail
      refine (refOne d.v _).mono ?_
      rintro e w3 ⟨rfl, hb3⟩
      have hS3 := (hB1.drew.alloc (.cells (#[.string zeroP.key, .int .i64 zeroP.sp.s, .int .i64 zeroP.sp.e, .int .i64 zeroP.ag.n, .int .i64 zeroP.ag.sum, .int .i64 zeroP.ag.lo, .int .i64 zeroP.ag.hi] : Array Value) 32)).below hb3
      simp only [Agg.val]
      go_wp2_with fail
      have hN3 : Blk w3 W0.heap.size (#[.string zeroP.key, .int .i64 zeroP.sp.s, .int .i64 zeroP.sp.e, .int .i64 zeroP.ag.n, .int .i64 zeroP.ag.sum, .int .i64 zeroP.ag.lo, .int .i64 zeroP.ag.hi] : Array Value) 32 := (Blk.new W0.drew (#[.string zeroP.key, .int .i64 zeroP.sp.s, .int .i64 zeroP.sp.e, .int .i64 zeroP.ag.n, .int .i64 zeroP.ag.sum, .int .i64 zeroP.ag.lo, .int .i64 zeroP.ag.hi] : Array Value) 32).below hb3
      have hZ3 : Below wr.heap.size wr w3 := below_then ((Below.drew hZ0).alloc (by have := hZ0.size; exact this) _) (by have := hZ0.size; simp; omega) hb3
      obtain ⟨tn, fn⟩ := blk_facts hN3
      refine ⟨fun W => _ = W, rfl, fun W hW => by rw [← hW]; exact hS3, ?_⟩
      refine wpPin_ms (W0 := w3) hS3 [6] (by kernel_rfl) ?_
      simp only [pickOps, List.getElem?_cons_zero, List.getElem?_cons_succ]
      go_big_quiet_want
      refine ⟨.agg #[.string key, .int .i64 d.s.s, .int .i64 d.s.e, .int .i64 (Agg.one d.v).n, .int .i64 (Agg.one d.v).sum, .int .i64 (Agg.one d.v).lo, .int .i64 (Agg.one d.v).hi], fun W hW => ?_, ?_⟩
      · skip
        go_simp
      go_simp
      go_big_quiet_on
      refine wpQuiet_nil ?_
      refine wpPin_loud _ rfl ?_
      rintro W rfl
      go_wp2_with fail
      refine ⟨fun W => _ = W, rfl, fun W hW => by rw [← hW]; exact (by repeat (first | (with_reducible exact hS3) | refine Blk.setOther ?_ (by simp; omega))), ?_⟩
      rintro W rfl
      refine NoPanic.normal ?_
      go_wp2_with fail
      go_meet
      refine ⟨W0.heap.size, rfl, hsz, hid_mk ?_, hid_mk hN3.set7, hid_mk ?_⟩
      · repeat (refine Below.setCell ?_ (by simp; omega) _)
        exact hZ3
      · repeat (refine Blk.setOther ?_ (by simp; omega))
        exact hS3
    · rintro W rfl
      go_wp2_with fail
      refine (refOne d.v _).mono ?_
      rintro e w3 ⟨rfl, hb3⟩
      have hS3 := hB1.drew.below hb3
      simp only [Agg.val]
      go_wp2_with fail
      have hZ3 : Below wr.heap.size wr w3 := below_then (Below.drew hZ0) (by have := hZ0.size; exact this) hb3
      refine ⟨fun W => _ = W, rfl, fun W hW => by rw [← hW]; exact hS3, ?_⟩
      refine wpFl_ms (W0 := w3) hS3 [6] (by kernel_rfl) ?_
      simp only [pickOps, List.getElem?_cons_zero, List.getElem?_cons_succ]
      go_big_quiet_want
      refine ⟨.agg #[.string key, .int .i64 d.s.s, .int .i64 d.s.e, .int .i64 (Agg.one d.v).n, .int .i64 (Agg.one d.v).sum, .int .i64 (Agg.one d.v).lo, .int .i64 (Agg.one d.v).hi], fun W hW => ?_, ?_⟩
      · skip
        go_simp
      go_simp
      go_big_quiet_on
      refine wpQuiet_nil ?_
      refine wpPin_loud _ rfl ?_
      rintro W rfl
      go_wp2_with fail
      refine ⟨fun W => _ = W, rfl, fun W hW => by rw [← hW]; exact hS3.alloc _, ?_⟩
      refine wpPin_loud _ rfl ?_
      rintro W rfl
      go_wp2_with fail
      refine ⟨fun W => _ = W, rfl, fun W hW => by rw [← hW]; exact hS3.alloc _, ?_⟩
      rintro W rfl
      refine NoPanic.normal ?_
      go_wp2_with fail
      go_meet
      have hz3 : W0.heap.size ≤ w3.heap.size := hb3.size
      exact ⟨w3.heap.size, rfl, by omega, hid_mk (hZ3.alloc (by omega) _), hid_mk (Blk.new _ _ _), hid_mk (hS3.alloc _)⟩
  case rest =>
    obtain ⟨B, rfl, hB, hZr, hP, hD⟩ := hcut
    obtain ⟨base, hbase⟩ : ∃ base, base = wc.heap.size := ⟨_, rfl⟩
    have hBb : B < base := by rw [hbase]; exact hP.out.lt
    have hb0 : Hid (base ≤ wc.heap.size) := hid_mk (by omega)
    clear hbase
    obtain ⟨dc, df⟩ := blk_facts hD.out
    go_wp2_with fail
    refine (refPick d.what _ hfd).mono ?_
    rintro e w1 ⟨rfl, hb1⟩
    have hP1 := hid_mk (hP.out.below hb1)
    have hD1 := hid_mk (hD.out.below hb1)
    have hZr1 := hid_mk (below_then hZr.out hZr.out.size hb1)
    have hb01 : Hid (base ≤ w1.heap.size) := hid_mk (by have := hb0.out; have := hb1.size; omega)
    clear hP hD hZr hb0 hb1 dc df
    have hP := hP1
    have hD := hD1
    have hZr := hZr1
    have hb0 := hb01
    clear hP1 hD1 hZr1 hb01
    rw [hpk0]
    clear hpk0
    go_wp2_with fail
    obtain ⟨f, hf⟩ : ∃ f, f = sameF false d.s := ⟨_, rfl⟩
    have hf' := hid_mk hf
    clear hf
    refine wp_loopF (fun u => (⟨#[.slice (some ⟨db, do', none⟩) ds.length c, .string key, u 2, u 3, u 4, .bool true, .slice Am m.length cm, .int .i64 i, .pointer (some ⟨wr.heap.size, 0, none⟩), .pointer (some ⟨B, 0, none⟩), u 10, u 11, .int .i64 0, .bool false, u 14, u 15, u 16, u 17, u 18, u 19, u 20, u 21, u 22, u 23, u 24, u 25, u 26, u 27, u 28, u 29, u 30, u 31, u 32, u 33, u 34, u 35, u 36, u 37, u 38, u 39, u 40, u 41, u 42, u 43, u 44, u 45, u 46, u 47, u 48, u 49, u 50, u 51, u 52, u 53, u 54, u 55, u 56, u 57, u 58, u 59, u 60, u 61, u 62, u 63, u 64, u 65, u 66, u 67, u 68, u 69, u 70, u 71, u 72, u 73, u 74, u 75, u 76, u 77, u 78, u 79, u 80, u 81, u 82, u 83, u 84, u 85, u 86, u 87, u 88, u 89, u 90, u 91, u 92, u 93, u 94, u 95, u 96, u 97, u 98, u 99, u 100, u 101, u 102, u 103, u 104, u 105, u 106, u 107, u 108, u 109, u 110, u 111, u 112, u 113, u 114, u 115, u 116, u 117, u 118, u 119, u 120, u 121, u 122, u 123, u 124, u 125, u 126, u 127, u 128, u 129, u 130, u 131, u 132, u 133, u 134, u 135, u 136, u 137, u 138, u 139, u 140, u 141, u 142, u 143, u 144, u 145, u 146, u 147, u 148, u 149, u 150, u 151, u 152, u 153, u 154, u 155, u 156, u 157, u 158, u 159, u 160, u 161, u 162, u 163, u 164, u 165, u 166, u 167, u 168, u 169, u 170, u 171, u 172, u 173, u 174, u 175, u 176, u 177, u 178, u 179, u 180, u 181, u 182, u 183, u 184, u 185, u 186, u 187, u 188, u 189, u 190, u 191, u 192, u 193, u 194, u 195, u 196, u 197, u 198, u 199, u 200, u 201, u 202, u 203, u 204, u 205, u 206, u 207, u 208, u 209, u 210, u 211, u 212, u 213, u 214, u 215, u 216, u 217, u 218, u 219, u 220, u 221, u 222, u 223, u 224, u 225, u 226, u 227, u 228, u 229, u 230, u 231, u 232, u 233, u 234, u 235, u 236, u 237, u 238, u 239, u 240, u 241, u 242, u 243, u 244, u 245, u 246, u 247, u 248, u 249, u 250, u 251, u 252, u 253, u 254, u 255, u 256, u 257, u 258, u 259, u 260, u 261, u 262, u 263, u 264, u 265, u 266, u 267, u 268, u 269, u 270, u 271, u 272, u 273, u 274, u 275, u 276, u 277, u 278, u 279, u 280, u 281, u 282, u 283, u 284, u 285, u 286, u 287, u 288, u 289, u 290], []⟩ : Act)) (fun u W => ∃ (k : Nat) (q : Pane), k ≤ m.length ∧ u 14 = .int .i64 k ∧ Hid (q = accF ⟨key, d.s, Agg.one d.v⟩ f (m.take k)) ∧ Hid (Own encP 32 W base (u 10) (outF f (m.take k))) ∧ Hid (Own encS 28 W base (u 11) ((metF f (m.take k)).map Pane.sp))
      ∧ Hid (Blk W B (#[.string q.key, .int .i64 q.sp.s, .int .i64 q.sp.e, .int .i64 q.ag.n, .int .i64 q.ag.sum, .int .i64 q.ag.lo, .int .i64 q.ag.hi] : Array Value) 32) ∧ Hid (Blk W wr.heap.size #[.int .i64 d.what, .int .i64 d.s.s, .int .i64 d.s.e, .int .i64 d.v] 43) ∧ Hid (Below wr.heap.size wr W) ∧ Hid (base ≤ W.heap.size)) (fun u _ => m.length - (intOf (u 14)).toNat) rfl ?_ ?_
    · exact ⟨0, ⟨key, d.s, Agg.one d.v⟩, Nat.zero_le _, rfl, hid_mk rfl, hid_mk (Own.nil _ _ _), hid_mk (Own.nil _ _ _), hP, hD, hZr, hb0⟩
    intro u W m2 hrel hm2
    obtain ⟨k, q, hk, h14, hq, hO, hG, hP, hD, hZr, hbr⟩ := hrel
    rw [h14] at hm2
    have hm2' : m.length - k = m2 := by rw [← hm2]; simp [intOf]
    dsimp only
    rw [h14]
    clear h14 hm2
    have hbz := hbr.out
    have hlo : (outF f (m.take k)).length ≤ k := Nat.le_trans (outF_len _ _) (by simp; omega)
    have hlm : (metF f (m.take k)).length ≤ k := Nat.le_trans (metF_len _ _) (by simp; omega)
    by_cases hkm : k < m.length
    · obtain ⟨mb, mo, rfl, hmb, c0, c1, c2, c3, c4, c5, c6⟩ := (hRm.out.below hZr.out).pane hkm
      have hDl := hD.out.lt
      have hg := eqgS
      obtain ⟨dc, df⟩ := blk_facts hD.out
      cases hfb : f m[k] with
      | false =>
        have htk : m.take (k + 1) = m.take k ++ [m[k]] := List.take_succ_eq_append_getElem hkm
        have ho1 := outF_snoc f (m.take k) m[k]
        have hm1 := metF_snoc f (m.take k) m[k]
        have ha1 := accF_snoc ⟨key, d.s, Agg.one d.v⟩ f (m.take k) m[k]
        rw [← htk, hfb] at ho1 hm1 ha1
        have ho1' := hid_mk ho1
        have hm1' := hid_mk hm1
        have ha1' := hid_mk ha1
        clear htk ho1 hm1 ha1
        have hq17 : ∀ W, (binOp .eql 28 m[k].sp.val d.s.val).run Try.prog W = .ok (.bool false) W := fun W => by rw [eqlS]; rw [hf'.out] at hfb; simpa [sameF] using hfb
        simp only [Span.val] at hq17
        clear hfb
        go_wp2_with fail
        go_quiet (fail)
        have Ox := hid_mk (hO.out.drewN nq)
        have Gx := hid_mk (hG.out.drewN nq)
        have Px := hid_mk (hP.out.drewN nq)
        have Dx := hid_mk (hD.out.drewN nq)
        have Zx := hid_mk (lib_below_drewN hZr.out nq)
        have bx : Hid (base ≤ (W.drewN nq).heap.size) := hid_mk hbr.out
        clear hO hG hP hD hZr hbr hq17 dc df c0 c1 c2 c3 c4 c5 c6 hmb
        generalize W.drewN nq = Wx at *
        obtain ⟨hmb, c0, c1, c2, c3, c4, c5, c6⟩ := (hRm.out.below Zx.out).paneKn hkm
        have hbl := Blk.new Wx m[k].cells.toArray 32
        have hbx := bx.out
        go_wp2_with (at_builtin; refine wpList_append I undP rfl _ _ rfl base _ (Ox.out.alloc _) rfl (Rd.lit hbl) rfl (by simp; omega) (by simp; omega) ?_; (intro v' w2 hown hg1 hat))
        have hob := Ox.out.base
        have hZsz := Zx.out.size
        refine ⟨rfl, ⟨k + 1, q, by omega, by go_num, ?_, ?_, ?_, ?_, ?_, ?_, ?_⟩, ?_⟩
        · exact hid_mk (by rw [ha1'.out, hq.out]; rfl)
        · exact hid_mk (by rw [ho1'.out]; exact hown)
        · have hm1'' : metF f (m.take (k + 1)) = metF f (m.take k) := by rw [hm1'.out]; simp
          exact hid_mk (by rw [hm1'']; exact (Gx.out.alloc _).grown hg1 (fun b hb he => (Ox.out.apart Gx.out (by decide)) b he hb))
        · exact hid_mk ((Px.out.alloc _).grown hg1 (fun he => by have := hob _ he; omega))
        · exact hid_mk ((Dx.out.alloc _).grown hg1 (fun he => by have := hob _ he; omega))
        · exact hid_mk ((Zx.out.alloc (by omega) _).grown hg1 (by simp; omega) (fun b hb => by have := hob b hb; omega))
        · exact hid_mk (by have := hg1.size; simp at this; omega)
        · show m.length - (intOf (Value.int .i64 ((k : Int) + 1))).toNat < m2
          simp only [intOf]; omega
      | true =>
        have htk : m.take (k + 1) = m.take k ++ [m[k]] := List.take_succ_eq_append_getElem hkm
        have ho1 := outF_snoc f (m.take k) m[k]
        have hm1 := metF_snoc f (m.take k) m[k]
        have ha1 := accF_snoc ⟨key, d.s, Agg.one d.v⟩ f (m.take k) m[k]
        rw [← htk, hfb] at ho1 hm1 ha1
        have ho1' := hid_mk ho1
        have hm1' := hid_mk hm1
        have ha1' := hid_mk ha1
        clear htk ho1 hm1 ha1
        have hq17 : ∀ W, (binOp .eql 28 m[k].sp.val d.s.val).run Try.prog W = .ok (.bool true) W := fun W => by rw [eqlS]; rw [hf'.out] at hfb; simpa [sameF] using hfb
        simp only [Span.val] at hq17
        clear hfb
        go_wp2_with fail
        go_quiet (fail)
        have Ox := hid_mk (hO.out.drewN nq)
        have Gx := hid_mk (hG.out.drewN nq)
        have Px := hid_mk (hP.out.drewN nq)
        have Dx := hid_mk (hD.out.drewN nq)
        have Zx := hid_mk (lib_below_drewN hZr.out nq)
        have bx : Hid (base ≤ (W.drewN nq).heap.size) := hid_mk hbr.out
        clear hO hG hP hD hZr hbr hq17 dc df c0 c1 c2 c3 c4 c5 c6 hmb
        generalize W.drewN nq = Wx at *
        obtain ⟨hmb, c0, c1, c2, c3, c4, c5, c6⟩ := (hRm.out.below Zx.out).paneKn hkm
        have hbl := Blk.new Wx m[k].sp.cells.toArray 28
        have hbx := bx.out
        go_wp2_with (at_builtin; refine wpList_append J undS rfl _ _ rfl base _ (Gx.out.alloc _) rfl (Rd.litS hbl) rfl (by simp; omega) (by simp; omega) ?_; (intro v' w2 hown hg1 hat))
        have hgb := Gx.out.base
        have hZsz := Zx.out.size
        have O2 := hid_mk ((Ox.out.alloc (.cells m[k].sp.cells.toArray 28)).grown hg1 (fun b hb he => (Gx.out.apart Ox.out (by decide)) b he hb))
        have G2 := hid_mk hown
        have P2 := hid_mk ((Px.out.alloc (.cells m[k].sp.cells.toArray 28)).grown hg1 (fun he => by have := hgb _ he; omega))
        have D2 := hid_mk ((Dx.out.alloc (.cells m[k].sp.cells.toArray 28)).grown hg1 (fun he => by have := hgb _ he; omega))
        have Z2 := hid_mk ((Zx.out.alloc (by omega) (.cells m[k].sp.cells.toArray 28)).grown hg1 (by simp; omega) (fun b hb => by have := hgb b hb; omega))
        have b2 : Hid (base ≤ w2.heap.size) := hid_mk (by have := hg1.size; simp at this; omega)
        have hb2 := b2.out
        clear Ox Gx Px Dx Zx bx hown hg1 hgb hbl c0 c1 c2 c3 c4 c5 c6 hmb hbx
        obtain ⟨hmb, c0, c1, c2, c3, c4, c5, c6⟩ := (hRm.out.below Z2.out).paneKn hkm
        obtain ⟨pc, pf⟩ := blk_facts P2.out
        refine wp_region_head 7 (by kernel_rfl) (by kernel_rfl) (fun W => ∃ n, W = World.drewN (w2) n) ⟨1, rfl⟩ ?_ (by decide)
        simp only [List.take_succ_cons, List.take_zero, List.drop_succ_cons, List.drop_zero]
        repeat (go_big_quiet_step ((fail)))
        refine wpQuiet_nil ?_
        rintro W ⟨nq, rfl⟩
        go_wp2_with fail
        refine (refJoin q.sp.s q.sp.e m[k].sp.s m[k].sp.e _).mono ?_
        rintro e w3 ⟨rfl, hb3⟩
        have O3 := hid_mk (Own.below (O2.out.drewN nq) hb3)
        have G3 := hid_mk (Own.below (G2.out.drewN nq) hb3)
        have P3 := hid_mk (Blk.below (P2.out.drewN nq) hb3)
        have D3 := hid_mk (Blk.below (D2.out.drewN nq) hb3)
        have Z3 := hid_mk (below_then (lib_below_drewN Z2.out nq) (Z2.out.size) hb3)
        have b3 : Hid (base ≤ w3.heap.size) := hid_mk (by have h1 := b2.out; have h2 : w2.heap.size ≤ w3.heap.size := hb3.size; omega)
        clear O2 G2 P2 D2 Z2 b2 hb3 c0 c1 c2 c3 c4 c5 c6 hmb pc pf
        obtain ⟨pc, pf⟩ := blk_facts P3.out
        go_wp2_with fail
        refine NoPanic.normal ?_
        have hgs : ∀ (W : World), World.grownBy W ((W.setCell ⟨B, 1, none⟩ (.int .i64 (minI q.sp.s m[k].sp.s))).setCell ⟨B, 2, none⟩ (.int .i64 (maxI q.sp.e m[k].sp.e))) (some B) := fun W => grown_trans (grown_set _ _ _ _) (grown_set _ _ _ _)
        have hgs3 := hid_mk (hgs w3)
        clear hgs pc pf
        have P4 := hid_mk (P3.out.set_12 (a1 := .int .i64 (minI q.sp.s m[k].sp.s)) (a2 := .int .i64 (maxI q.sp.e m[k].sp.e)))
        have D4 := hid_mk (D3.out.grown hgs3.out (by simp; omega))
        have O4 := hid_mk (O3.out.grown hgs3.out (fun b hb he => by
          have := O3.out.base b hb
          injection he; omega))
        have G4 := hid_mk (G3.out.grown hgs3.out (fun b hb he => by
          have := G3.out.base b hb
          injection he; omega))
        have Z4 := hid_mk (Z3.out.grown hgs3.out (by have := Z3.out.size; omega) (fun b hb => by injection hb; omega))
        have b4 : Hid (base ≤ ((w3.setCell ⟨B, 1, none⟩ (.int .i64 (minI q.sp.s m[k].sp.s))).setCell ⟨B, 2, none⟩ (.int .i64 (maxI q.sp.e m[k].sp.e))).heap.size) := hid_mk (Nat.le_trans b3.out hgs3.out.size)
        clear O3 G3 P3 D3 Z3 b3 hgs3
        generalize ((w3.setCell ⟨B, 1, none⟩ (.int .i64 (minI q.sp.s m[k].sp.s))).setCell ⟨B, 2, none⟩ (.int .i64 (maxI q.sp.e m[k].sp.e))) = w4 at *
        obtain ⟨hmb, c0, c1, c2, c3, c4, c5, c6⟩ := (hRm.out.below Z4.out).paneKn hkm
        obtain ⟨pc, pf⟩ := blk_facts P4.out
        go_wp2_with fail
        refine wp_region_head 7 (by kernel_rfl) (by kernel_rfl) (fun W => ∃ n, W = World.drewN (w4) n) ⟨1, rfl⟩ ?_ (by decide)
        simp only [List.take_succ_cons, List.take_zero, List.drop_succ_cons, List.drop_zero]
        repeat (go_big_quiet_step ((fail)))
        refine wpQuiet_nil ?_
        rintro W ⟨nq, rfl⟩
        go_wp2_with fail
        refine (refMerge q.ag m[k].ag _).mono ?_
        rintro e w5 ⟨rfl, hb5⟩
        have O5 := hid_mk (Own.below (O4.out.drewN nq) hb5)
        have G5 := hid_mk (Own.below (G4.out.drewN nq) hb5)
        have P5 := hid_mk (Blk.below (P4.out.drewN nq) hb5)
        have D5 := hid_mk (Blk.below (D4.out.drewN nq) hb5)
        have Z5 := hid_mk (below_then (lib_below_drewN Z4.out nq) (Z4.out.size) hb5)
        have b5 : Hid (base ≤ w5.heap.size) := hid_mk (by have h1 := b4.out; have h2 : w4.heap.size ≤ w5.heap.size := hb5.size; omega)
        clear O4 G4 P4 D4 Z4 b4 hb5 c0 c1 c2 c3 c4 c5 c6 hmb pc pf
        obtain ⟨pc, pf⟩ := blk_facts P5.out
        generalize hag : q.ag.merge m[k].ag = ag at *
        have hag' := hid_mk hag
        clear hag
        simp only [Agg.val]
        go_wp2_with fail
        refine NoPanic.normal ?_
        have hfin : ∀ W, World.grownBy W ((((W.setCell ⟨B, 3, none⟩ (.int .i64 ag.n)).setCell ⟨B, 4, none⟩ (.int .i64 ag.sum)).setCell ⟨B, 5, none⟩ (.int .i64 ag.lo)).setCell ⟨B, 6, none⟩ (.int .i64 ag.hi)) (some B) := fun W =>
          grown_trans (grown_trans (grown_trans (grown_set _ _ _ _) (grown_set _ _ _ _)) (grown_set _ _ _ _)) (grown_set _ _ _ _)
        have hg6 := hid_mk (hfin w5)
        clear hfin pc pf
        go_wp2_with fail
        refine ⟨rfl, ⟨k + 1, ⟨q.key, ⟨minI q.sp.s m[k].sp.s, maxI q.sp.e m[k].sp.e⟩, ag⟩, by omega, by go_num, ?_, ?_, ?_, ?_, ?_, ?_, ?_⟩, ?_⟩
        · exact hid_mk (by rw [ha1'.out, ← hq.out, ← hag'.out]; rfl)
        · have ho1'' : outF f (m.take (k + 1)) = outF f (m.take k) := by rw [ho1'.out]; simp
          exact hid_mk (by
            rw [ho1'']
            exact O5.out.grown hg6.out (fun b hb he => by
              have := O5.out.base b hb
              injection he; omega))
        · have hm1'' : (metF f (m.take (k + 1))).map Pane.sp = (metF f (m.take k)).map Pane.sp ++ [m[k].sp] := by rw [hm1'.out]; simp
          exact hid_mk (by
            rw [hm1'']
            exact G5.out.grown hg6.out (fun b hb he => by
              have := G5.out.base b hb
              injection he; omega))
        · exact hid_mk P5.out.set_36
        · exact hid_mk (D5.out.grown hg6.out (by simp; omega))
        · exact hid_mk (Z5.out.grown hg6.out (by have := Z5.out.size; omega) (fun b hb => by injection hb; omega))
        · exact hid_mk (Nat.le_trans b5.out hg6.out.size)
        · show m.length - (intOf (Value.int .i64 ((k : Int) + 1))).toNat < m2
          simp only [intOf]; omega
    · obtain rfl : k = m.length := by omega
      rw [List.take_of_length_le (Nat.le_refl _)] at hq hO hG
      clear hlo hlm hkm
      have hlo := outF_len f m
      have hlm := metF_len f m
      obtain ⟨dc, df⟩ := blk_facts hD.out
      go_wp2_with fail
      refine (paneFind _ m d.s _ (hRm.out.below hZr.out) (by omega) hs.out).mono ?_
      rintro e w2 ⟨rfl, hb2⟩
      have O2 := hid_mk (hO.out.below hb2)
      have G2 := hid_mk (hG.out.below hb2)
      have P2 := hid_mk (hP.out.below hb2)
      have D2 := hid_mk (hD.out.below hb2)
      have Z2 := hid_mk (below_then hZr.out hZr.out.size hb2)
      have b2 : Hid (base ≤ w2.heap.size) := hid_mk (by have h1 := hbr.out; have h2 := hb2.size; omega)
      obtain ⟨fp, hfp⟩ : ∃ fp, fp = findP m d.s := ⟨_, rfl⟩
      rw [← hfp]
      have hfp' := hid_mk hfp
      clear hO hG hP hD hZr hbr hb2 dc df hfp
      simp only [Pane.val]
      go_wp2_with fail
      refine (refOf _ m key _ ((hRm.out.below Z2.out).alloc _) (by omega)).mono ?_
      rintro e w3 ⟨vh, rfl, hH3, hb3⟩
      have F3 := hid_mk ((Blk.new w2 (#[.string fp.key, .int .i64 fp.sp.s, .int .i64 fp.sp.e, .int .i64 fp.ag.n, .int .i64 fp.ag.sum, .int .i64 fp.ag.lo, .int .i64 fp.ag.hi] : Array Value) 32).below hb3)
      have O3 := hid_mk (Own.below (O2.out.alloc (.cells (#[.string fp.key, .int .i64 fp.sp.s, .int .i64 fp.sp.e, .int .i64 fp.ag.n, .int .i64 fp.ag.sum, .int .i64 fp.ag.lo, .int .i64 fp.ag.hi] : Array Value) 32)) hb3)
      have G3 := hid_mk (Own.below (G2.out.alloc (.cells (#[.string fp.key, .int .i64 fp.sp.s, .int .i64 fp.sp.e, .int .i64 fp.ag.n, .int .i64 fp.ag.sum, .int .i64 fp.ag.lo, .int .i64 fp.ag.hi] : Array Value) 32)) hb3)
      have P3 := hid_mk (Blk.below (P2.out.alloc (.cells (#[.string fp.key, .int .i64 fp.sp.s, .int .i64 fp.sp.e, .int .i64 fp.ag.n, .int .i64 fp.ag.sum, .int .i64 fp.ag.lo, .int .i64 fp.ag.hi] : Array Value) 32)) hb3)
      have D3 := hid_mk (Blk.below (D2.out.alloc (.cells (#[.string fp.key, .int .i64 fp.sp.s, .int .i64 fp.sp.e, .int .i64 fp.ag.n, .int .i64 fp.ag.sum, .int .i64 fp.ag.lo, .int .i64 fp.ag.hi] : Array Value) 32)) hb3)
      have Z3 := hid_mk (below_then (Z2.out.alloc Z2.out.size _) (by have := Z2.out.size; simp; omega) hb3)
      have H3 := hid_mk hH3.rd
      have b3 : Hid (base ≤ w3.heap.size) := hid_mk (by have h1 := b2.out; have h2 := hb3.size; simp at h2; omega)
      rw [of_self hks.out] at H3
      clear O2 G2 P2 D2 Z2 b2 hb3 hH3
      obtain ⟨pc, pf⟩ := blk_facts P3.out
      go_wp2_with fail
      refine (law07set _ (outF f m) q _ O3.out.rd (by omega)).mono ?_
      rintro e w4 ⟨vw, rfl, hS4, hb4⟩
      have H4 := hid_mk (H3.out.below hb4)
      have D4 := hid_mk (D3.out.below hb4)
      have Z4 := hid_mk (below_then Z3.out Z3.out.size hb4)
      have S4 := hid_mk hS4.rd
      clear pc pf H3 D3 O3 G3 P3 F3 Z3 hb4 hS4 b3
      obtain ⟨dc, df⟩ := blk_facts D4.out
      go_wp2_with fail
      refine (panePut _ m key d.s d.v _ (hRm.out.below Z4.out) (by omega) hs.out).mono ?_
      rintro e w5 ⟨vp, rfl, hP5, hb5⟩
      rw [put_set hs.out hks.out, ← hf'.out, ← hq.out] at hP5
      have H5 := hid_mk (H4.out.below hb5)
      have Z5 := hid_mk (below_then Z4.out Z4.out.size hb5)
      have S5 := hid_mk (S4.out.below hb5)
      have hP5' := hid_mk hP5.rd
      clear H4 D4 Z4 S4 hb5 hP5 dc df
      have hsl := set_len (outF f m) q
      go_wp2_with fail
      refine (refSame _ _ _ _ _ hP5'.out S5.out (by omega) (by omega)).mono ?_
      rintro e w6 ⟨rfl, hb6⟩
      rw [decide_eq_true rfl]
      have H6 := hid_mk (H5.out.below hb6)
      have Z6 := hid_mk (below_then Z5.out Z5.out.size hb6)
      have S6 := hid_mk (S5.out.below hb6)
      clear H5 Z5 S5 hb6 hP5'
      go_wp2_with fail
      refine (refSame _ _ _ _ _ (hRm.out.below Z6.out) H6.out (by omega) (by omega)).mono ?_
      rintro e w7 ⟨rfl, hb7⟩
      rw [decide_eq_true rfl]
      have Z7 := hid_mk (below_then Z6.out Z6.out.size hb7)
      have S7 := hid_mk (S6.out.below hb7)
      clear H6 Z6 S6 hb7
      go_wp2_with fail
      refine ⟨rfl, ⟨i + 1, setP (outF f m) q, by omega, by go_num, S7, ?_, ?_, ?_, ?_⟩, ?_⟩
      · exact hid_mk (set_rise (hs.out.out f) q (by rw [hq.out, hf'.out, acc_same _ _ _ hs.out]; exact out_ne d.s m))
      · exact hid_mk (keys_set (keys_out hks.out f) (by rw [hq.out, acc_key]))
      · exact hid_mk (by omega)
      · exact hid_mk (below_then hZ.out hZ.out.size Z7.out)
      · show ds.length - (intOf (Value.int .i64 ((i : Int) + 1))).toNat < mm
        simp only [intOf]; omega
end Go.Proofs.Ytkmjehodmfnihaa
