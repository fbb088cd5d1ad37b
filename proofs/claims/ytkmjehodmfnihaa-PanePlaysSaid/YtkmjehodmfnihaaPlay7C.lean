/-
  PanePlays: a round (1).
-/
import Derived.Test.YtkmjehodmfnihaaPlay7A
set_option linter.unusedSimpArgs false
set_option linter.unusedVariables false
namespace Go.Proofs.Ytkmjehodmfnihaa
open Go.RowKit

set_option maxRecDepth 100000 in
set_option maxHeartbeats 40000000 in
theorem round7_1 : Round7 1 := by
  intro ds key w A c Q u wr mm i m hR0 hfit0 hbig hQ hlt h7 hRm0 hs0 hks0 hmi0 hZ0 hmm' hpk0
  obtain ⟨I⟩ := infoP
  obtain ⟨J⟩ := infoS
  have hfd := hfit0 ds[i] (List.getElem_mem hlt)
  have hR'0 := hid_mk hR0
  have hQ' := hid_mk hQ
  have hRm := hid_mk hRm0
  have hs := hid_mk hs0
  have hks := hid_mk hks0
  have hmi := hid_mk hmi0
  have hZ := hid_mk hZ0
  obtain ⟨_, _, hv, _, hml, _⟩ := hR0.out
  clear hR0 hfit0 hRm0 hs0 hks0 hmi0 hZ0 hQ hv
  unfold maxLen at hml
  unfold play7Body
  conv => arg 2; whnf
  dsimp only
  rw [h7]
  clear h7
  have hR2 := hid_mk (hR'0.out.below hZ.out)
  obtain ⟨db, do', rfl, hdb, e0, e1, e2, e3⟩ := hR2.out.deed hlt
  generalize ds[i] = d at *
  obtain ⟨Am, cm, hm6, _⟩ := hRm.out.slice
  rw [hm6] at hRm ⊢
  have hml2 := hmi.out
  have hZs := hZ.out.size
  go_upto_region 9 with fail
  go_cut [9] from 49 to 56 (fun s9 wx => ∃ B : Nat, s9 = .pointer (some ⟨B, 0, none⟩) ∧ wr.heap.size < B ∧ Hid (Below wr.heap.size wr wx) ∧ Hid (Blk wx B (#[.string (Pane.mk key d.s (Agg.one d.v)).key, .int .i64 (Pane.mk key d.s (Agg.one d.v)).sp.s, .int .i64 (Pane.mk key d.s (Agg.one d.v)).sp.e, .int .i64 (Pane.mk key d.s (Agg.one d.v)).ag.n, .int .i64 (Pane.mk key d.s (Agg.one d.v)).ag.sum, .int .i64 (Pane.mk key d.s (Agg.one d.v)).ag.lo, .int .i64 (Pane.mk key d.s (Agg.one d.v)).ag.hi] : Array Value) 32) ∧ Hid (Blk wx wr.heap.size #[.int .i64 d.what, .int .i64 d.s.s, .int .i64 d.s.e, .int .i64 d.v] 43))
  case first =>
    have hB1 := Blk.new wr #[.int .i64 d.what, .int .i64 d.s.s, .int .i64 d.s.e, .int .i64 d.v] 43
    have hZ0 : Below wr.heap.size wr (wr.alloc (.cells #[.int .i64 d.what, .int .i64 d.s.s, .int .i64 d.s.e, .int .i64 d.v] 43)) := (Below.refl _ _).alloc (Nat.le_refl _) _
    have hsz : wr.heap.size < (wr.alloc (.cells #[.int .i64 d.what, .int .i64 d.s.s, .int .i64 d.s.e, .int .i64 d.v] 43)).heap.size := by simp
    generalize wr.alloc (.cells #[.int .i64 d.what, .int .i64 d.s.s, .int .i64 d.s.e, .int .i64 d.v] 43) = W0 at *
    refine wp_region_float [0, 1, 2, 3, 4] [6] [8] 5 7 rfl (by kernel_rfl) (by kernel_rfl) (fun W => Blk W wr.heap.size #[.int .i64 d.what, .int .i64 d.s.s, .int .i64 d.s.e, .int .i64 d.v] 43) hB1.drew ?_
    simp only [pickOps, List.getElem?_cons_zero, List.getElem?_cons_succ]
    go_big_quiet_step ((fail))
    go_big_quiet_want
    refine ⟨.pointer (some ⟨wr.heap.size, 1, none⟩), fun W hW => ?_, ?_⟩
    · skip
      go_simp
    go_simp
    go_big_quiet_on
    go_big_quiet_want
    refine ⟨.agg #[.int .i64 d.s.s, .int .i64 d.s.e], fun W hW => ?_, ?_⟩
    · obtain ⟨hc, hf⟩ := blk_facts hW
      go_simp
    go_simp
    go_big_quiet_on
    go_big_quiet_want
    refine ⟨.pointer (some ⟨wr.heap.size, 3, none⟩), fun W hW => ?_, ?_⟩
    · skip
      go_simp
    go_simp
    go_big_quiet_on
    go_big_quiet_want
    refine ⟨.int .i64 d.v, fun W hW => ?_, ?_⟩
    · obtain ⟨hc, hf⟩ := blk_facts hW
      go_simp
    go_simp
    go_big_quiet_on
    refine wpQuiet_nil ?_
    constructor
    · refine wpPin_loud _ rfl ?_
      rintro W rfl
      go_wp2_with fail
      refine ⟨fun W => _ = W, rfl, fun W hW => by rw [← hW]; exact hB1.drew.alloc _, ?_⟩
      refine wpPin_loud _ rfl ?_
      rintro W rfl
      go_wp2_with fail
      refine (refOne d.v _).mono ?_
      rintro e w3 ⟨rfl, hb3⟩
      have hS3 := (hB1.drew.alloc (.cells (#[.string zeroP.key, .int .i64 zeroP.sp.s, .int .i64 zeroP.sp.e, .int .i64 zeroP.ag.n, .int .i64 zeroP.ag.sum, .int .i64 zeroP.ag.lo, .int .i64 zeroP.ag.hi] : Array Value) 32)).below hb3
      simp only [Agg.val]
      go_wp2_with fail
      have hN3 : Blk w3 W0.heap.size (#[.string zeroP.key, .int .i64 zeroP.sp.s, .int .i64 zeroP.sp.e, .int .i64 zeroP.ag.n, .int .i64 zeroP.ag.sum, .int .i64 zeroP.ag.lo, .int .i64 zeroP.ag.hi] : Array Value) 32 := (Blk.new W0.drew (#[.string zeroP.key, .int .i64 zeroP.sp.s, .int .i64 zeroP.sp.e, .int .i64 zeroP.ag.n, .int .i64 zeroP.ag.sum, .int .i64 zeroP.ag.lo, .int .i64 zeroP.ag.hi] : Array Value) 32).below hb3
      have hZ3 : Below wr.heap.size wr w3 := below_then ((Below.drew hZ0).alloc (by have := hZ0.size; exact this) _) (by have := hZ0.size; simp; omega) hb3
      obtain ⟨tn, fn⟩ := blk_facts hN3
      refine ⟨fun W => _ = W, rfl, fun W hW => by rw [← hW]; exact hS3, ?_⟩
      refine wpPin_ms (W0 := w3) hS3 [6] (by kernel_rfl) ?_
      simp only [pickOps, List.getElem?_cons_zero, List.getElem?_cons_succ]
      go_big_quiet_want
      refine ⟨.agg #[.string key, .int .i64 d.s.s, .int .i64 d.s.e, .int .i64 (Agg.one d.v).n, .int .i64 (Agg.one d.v).sum, .int .i64 (Agg.one d.v).lo, .int .i64 (Agg.one d.v).hi], fun W hW => ?_, ?_⟩
      · skip
        go_simp
      go_simp
      go_big_quiet_on
      refine wpQuiet_nil ?_
      refine wpPin_loud _ rfl ?_
      rintro W rfl
      go_wp2_with fail
      refine ⟨fun W => _ = W, rfl, fun W hW => by rw [← hW]; exact (by repeat (first | (with_reducible exact hS3) | refine Blk.setOther ?_ (by simp; omega))), ?_⟩
      rintro W rfl
      refine NoPanic.normal ?_
      go_wp2_with fail
      go_meet
      refine ⟨W0.heap.size, rfl, hsz, hid_mk ?_, hid_mk hN3.set7, hid_mk ?_⟩
      · repeat (refine Below.setCell ?_ (by simp; omega) _)
        exact hZ3
      · repeat (refine Blk.setOther ?_ (by simp; omega))
        exact hS3
    · rintro W rfl
      go_wp2_with fail
      refine (refOne d.v _).mono ?_
      rintro e w3 ⟨rfl, hb3⟩
      have hS3 := hB1.drew.below hb3
      simp only [Agg.val]
      go_wp2_with fail
      have hZ3 : Below wr.heap.size wr w3 := below_then (Below.drew hZ0) (by have := hZ0.size; exact this) hb3
      refine ⟨fun W => _ = W, rfl, fun W hW => by rw [← hW]; exact hS3, ?_⟩
      refine wpFl_ms (W0 := w3) hS3 [6] (by kernel_rfl) ?_
      simp only [pickOps, List.getElem?_cons_zero, List.getElem?_cons_succ]
      go_big_quiet_want
      refine ⟨.agg #[.string key, .int .i64 d.s.s, .int .i64 d.s.e, .int .i64 (Agg.one d.v).n, .int .i64 (Agg.one d.v).sum, .int .i64 (Agg.one d.v).lo, .int .i64 (Agg.one d.v).hi], fun W hW => ?_, ?_⟩
      · skip
        go_simp
      go_simp
      go_big_quiet_on
      refine wpQuiet_nil ?_
      refine wpPin_loud _ rfl ?_
      rintro W rfl
      go_wp2_with fail
      refine ⟨fun W => _ = W, rfl, fun W hW => by rw [← hW]; exact hS3.alloc _, ?_⟩
      refine wpPin_loud _ rfl ?_
      rintro W rfl
      go_wp2_with fail
      refine ⟨fun W => _ = W, rfl, fun W hW => by rw [← hW]; exact hS3.alloc _, ?_⟩
      rintro W rfl
      refine NoPanic.normal ?_
      go_wp2_with fail
      go_meet
      have hz3 : W0.heap.size ≤ w3.heap.size := hb3.size
      exact ⟨w3.heap.size, rfl, by omega, hid_mk (hZ3.alloc (by omega) _), hid_mk (Blk.new _ _ _), hid_mk (hS3.alloc _)⟩
  case rest =>
    obtain ⟨B, rfl, hB, hZr, hP, hD⟩ := hcut
    obtain ⟨base, hbase⟩ : ∃ base, base = wc.heap.size := ⟨_, rfl⟩
    have hBb : B < base := by rw [hbase]; exact hP.out.lt
    have hb0 : Hid (base ≤ wc.heap.size) := hid_mk (by omega)
    clear hbase
    obtain ⟨dc, df⟩ := blk_facts hD.out
    go_wp2_with fail
    refine (refPick d.what _ hfd).mono ?_
    rintro e w1 ⟨rfl, hb1⟩
    have hP1 := hid_mk (hP.out.below hb1)
    have hD1 := hid_mk (hD.out.below hb1)
    have hZr1 := hid_mk (below_then hZr.out hZr.out.size hb1)
    have hb01 : Hid (base ≤ w1.heap.size) := hid_mk (by have := hb0.out; have := hb1.size; omega)
    clear hP hD hZr hb0 hb1 dc df
    have hP := hP1
    have hD := hD1
    have hZr := hZr1
    have hb0 := hb01
    clear hP1 hD1 hZr1 hb01
    rw [hpk0]
    clear hpk0
    go_wp2_with fail
    obtain ⟨f, hf⟩ : ∃ f, f = sameF true d.s := ⟨_, rfl⟩
    have hf' := hid_mk hf
    clear hf
    refine wp_loopF (fun u => (⟨#[.slice (some ⟨db, do', none⟩) ds.length c, .string key, u 2, u 3, u 4, .bool true, .slice Am m.length cm, .int .i64 i, .pointer (some ⟨wr.heap.size, 0, none⟩), .pointer (some ⟨B, 0, none⟩), u 10, u 11, .int .i64 1, .bool true, u 14, u 15, u 16, u 17, u 18, u 19, u 20, u 21, u 22, u 23, u 24, u 25, u 26, u 27, u 28, u 29, u 30, u 31, u 32, u 33, u 34, u 35, u 36, u 37, u 38, u 39, u 40, u 41, u 42, u 43, u 44, u 45, u 46, u 47, u 48, u 49, u 50, u 51, u 52, u 53, u 54, u 55, u 56, u 57, u 58, u 59, u 60, u 61, u 62, u 63, u 64, u 65, u 66, u 67, u 68, u 69, u 70, u 71, u 72, u 73, u 74, u 75, u 76, u 77, u 78, u 79, u 80, u 81, u 82, u 83, u 84, u 85, u 86, u 87, u 88, u 89, u 90, u 91, u 92, u 93, u 94, u 95, u 96, u 97, u 98, u 99, u 100, u 101, u 102, u 103, u 104, u 105, u 106, u 107, u 108, u 109, u 110, u 111, u 112, u 113, u 114, u 115, u 116, u 117, u 118, u 119, u 120, u 121, u 122, u 123, u 124, u 125, u 126, u 127, u 128, u 129, u 130, u 131, u 132, u 133, u 134, u 135, u 136, u 137, u 138, u 139, u 140, u 141, u 142, u 143, u 144, u 145, u 146, u 147, u 148, u 149, u 150, u 151, u 152, u 153, u 154, u 155, u 156, u 157, u 158, u 159, u 160, u 161, u 162, u 163, u 164, u 165, u 166, u 167, u 168, u 169, u 170, u 171, u 172, u 173, u 174, u 175, u 176, u 177, u 178, u 179, u 180, u 181, u 182, u 183, u 184, u 185, u 186, u 187, u 188, u 189, u 190, u 191, u 192, u 193, u 194, u 195, u 196, u 197, u 198, u 199, u 200, u 201, u 202, u 203, u 204, u 205, u 206, u 207, u 208, u 209, u 210, u 211, u 212, u 213, u 214, u 215, u 216, u 217, u 218, u 219, u 220, u 221, u 222, u 223, u 224, u 225, u 226, u 227, u 228, u 229, u 230, u 231, u 232, u 233, u 234, u 235, u 236, u 237, u 238, u 239, u 240, u 241, u 242, u 243, u 244, u 245, u 246, u 247, u 248, u 249, u 250, u 251, u 252, u 253, u 254, u 255, u 256, u 257, u 258, u 259, u 260, u 261, u 262, u 263, u 264, u 265, u 266, u 267, u 268, u 269, u 270, u 271, u 272, u 273, u 274, u 275, u 276, u 277, u 278, u 279, u 280, u 281, u 282, u 283, u 284, u 285, u 286, u 287, u 288, u 289, u 290], []⟩ : Act)) (fun u W => ∃ (k : Nat) (q : Pane), k ≤ m.length ∧ u 14 = .int .i64 k ∧ Hid (q = accF ⟨key, d.s, Agg.one d.v⟩ f (m.take k)) ∧ Hid (Own encP 32 W base (u 10) (outF f (m.take k))) ∧ Hid (Own encS 28 W base (u 11) ((metF f (m.take k)).map Pane.sp))
      ∧ Hid (Blk W B (#[.string q.key, .int .i64 q.sp.s, .int .i64 q.sp.e, .int .i64 q.ag.n, .int .i64 q.ag.sum, .int .i64 q.ag.lo, .int .i64 q.ag.hi] : Array Value) 32) ∧ Hid (Blk W wr.heap.size #[.int .i64 d.what, .int .i64 d.s.s, .int .i64 d.s.e, .int .i64 d.v] 43) ∧ Hid (Below wr.heap.size wr W) ∧ Hid (base ≤ W.heap.size)) (fun u _ => m.length - (intOf (u 14)).toNat) rfl ?_ ?_
    · exact ⟨0, ⟨key, d.s, Agg.one d.v⟩, Nat.zero_le _, rfl, hid_mk rfl, hid_mk (Own.nil _ _ _), hid_mk (Own.nil _ _ _), hP, hD, hZr, hb0⟩
    intro u W m2 hrel hm2
    obtain ⟨k, q, hk, h14, hq, hO, hG, hP, hD, hZr, hbr⟩ := hrel
    rw [h14] at hm2
    have hm2' : m.length - k = m2 := by rw [← hm2]; simp [intOf]
    dsimp only
    rw [h14]
    clear h14 hm2
    have hbz := hbr.out
    have hlo : (outF f (m.take k)).length ≤ k := Nat.le_trans (outF_len _ _) (by simp; omega)
    have hlm : (metF f (m.take k)).length ≤ k := Nat.le_trans (metF_len _ _) (by simp; omega)
    by_cases hkm : k < m.length
    · obtain ⟨mb, mo, rfl, hmb, c0, c1, c2, c3, c4, c5, c6⟩ := (hRm.out.below hZr.out).pane hkm
      have hDl := hD.out.lt
      have hg := eqgS
      obtain ⟨dc, df⟩ := blk_facts hD.out
      obtain ⟨b17, h17⟩ : ∃ b, b = decide (m[k].sp = d.s) := ⟨_, rfl⟩
      have hq17 : ∀ W, (binOp .eql 28 m[k].sp.val d.s.val).run Try.prog W = .ok (.bool b17) W := fun W => by rw [eqlS, h17]
      simp only [Span.val] at hq17
      have hfe : f m[k] = (decide (m[k].sp.s < m[k].sp.e) && decide (d.s.s < d.s.e) && decide (m[k].sp.s < d.s.e) && decide (d.s.s < m[k].sp.e)) := by rw [hf'.out]; rfl
      clear h17
      by_cases hSv : d.s.s < d.s.e
      · by_cases hMv : m[k].sp.s < m[k].sp.e
        · have hmt : (decide (maxI m[k].sp.s d.s.s < m[k].sp.e) && decide (maxI m[k].sp.s d.s.s < d.s.e)) = f m[k] := by
            rw [hfe, Bool.eq_iff_iff]
            simp only [Bool.and_eq_true, decide_eq_true_eq]
            unfold maxI
            split <;> omega
          clear hfe
          cases hfb : f m[k] with
          | false =>
            rw [hfb] at hmt
            have htk : m.take (k + 1) = m.take k ++ [m[k]] := List.take_succ_eq_append_getElem hkm
            have ho1 := outF_snoc f (m.take k) m[k]
            have hm1 := metF_snoc f (m.take k) m[k]
            have ha1 := accF_snoc ⟨key, d.s, Agg.one d.v⟩ f (m.take k) m[k]
            rw [← htk, hfb] at ho1 hm1 ha1
            have ho1' := hid_mk ho1
            have hm1' := hid_mk hm1
            have ha1' := hid_mk ha1
            clear htk ho1 hm1 ha1
            clear hfb
            go_wp2_with fail
            go_quiet (fail)
            have Ov := hid_mk (hO.out.drewN nq)
            have Gv := hid_mk (hG.out.drewN nq)
            have Pv := hid_mk (hP.out.drewN nq)
            have Dv := hid_mk (hD.out.drewN nq)
            have Zv := hid_mk (lib_below_drewN hZr.out nq)
            have bv : Hid (base ≤ (W.drewN nq).heap.size) := hid_mk hbr.out
            clear hO hG hP hD hZr hbr hq17 dc df c0 c1 c2 c3 c4 c5 c6 hmb
            generalize W.drewN nq = Wv at *
            obtain ⟨hmb, c0, c1, c2, c3, c4, c5, c6⟩ := (hRm.out.below Zv.out).paneKn hkm
            obtain ⟨dc, df⟩ := blk_facts Dv.out
            go_wp2_with fail
            refine wp_region_head 30 (by kernel_rfl) (by kernel_rfl) (fun W => ∃ n, W = World.drewN (Wv) n) ⟨1, rfl⟩ ?_ (by decide)
            simp only [List.take_succ_cons, List.take_zero, List.drop_succ_cons, List.drop_zero]
            repeat (go_big_quiet_step ((fail)))
            refine wpQuiet_nil ?_
            rintro W ⟨nq, rfl⟩
            go_wp2_with fail
            refine (refMeet _ _ _ _ _).mono ?_
            rintro e wm ⟨rfl, hbm⟩
            rw [hmt]
            have Ox := hid_mk (Own.below (Ov.out.drewN nq) hbm)
            have Gx := hid_mk (Own.below (Gv.out.drewN nq) hbm)
            have Px := hid_mk (Blk.below (Pv.out.drewN nq) hbm)
            have Dx := hid_mk (Blk.below (Dv.out.drewN nq) hbm)
            have Zx := hid_mk (below_then (lib_below_drewN Zv.out nq) (Zv.out.size) hbm)
            have bx : Hid (base ≤ wm.heap.size) := hid_mk (by have h1 := bv.out; have h2 : Wv.heap.size ≤ wm.heap.size := hbm.size; omega)
            clear Ov Gv Pv Dv Zv bv dc df c0 c1 c2 c3 c4 c5 c6 hmb hSv hMv hbm hmt
            generalize wm = Wx at *
            go_wp2_with fail
            refine NoPanic.normal ?_
            obtain ⟨hmb, c0, c1, c2, c3, c4, c5, c6⟩ := (hRm.out.below Zx.out).paneKn hkm
            have hbl := Blk.new Wx m[k].cells.toArray 32
            have hbx := bx.out
            go_wp2_with (at_builtin; refine wpList_append I undP rfl _ _ rfl base _ (Ox.out.alloc _) rfl (Rd.lit hbl) rfl (by simp; omega) (by simp; omega) ?_; (intro v' w2 hown hg1 hat))
            have hob := Ox.out.base
            have hZsz := Zx.out.size
            refine ⟨rfl, ⟨k + 1, q, by omega, by go_num, ?_, ?_, ?_, ?_, ?_, ?_, ?_⟩, ?_⟩
            · exact hid_mk (by rw [ha1'.out, hq.out]; rfl)
            · exact hid_mk (by rw [ho1'.out]; exact hown)
            · have hm1'' : metF f (m.take (k + 1)) = metF f (m.take k) := by rw [hm1'.out]; simp
              exact hid_mk (by rw [hm1'']; exact (Gx.out.alloc _).grown hg1 (fun b hb he => (Ox.out.apart Gx.out (by decide)) b he hb))
            · exact hid_mk ((Px.out.alloc _).grown hg1 (fun he => by have := hob _ he; omega))
            · exact hid_mk ((Dx.out.alloc _).grown hg1 (fun he => by have := hob _ he; omega))
            · exact hid_mk ((Zx.out.alloc (by omega) _).grown hg1 (by simp; omega) (fun b hb => by have := hob b hb; omega))
            · exact hid_mk (by have := hg1.size; simp at this; omega)
            · show m.length - (intOf (Value.int .i64 ((k : Int) + 1))).toNat < m2
              simp only [intOf]; omega
          | true =>
            rw [hfb] at hmt
            have htk : m.take (k + 1) = m.take k ++ [m[k]] := List.take_succ_eq_append_getElem hkm
            have ho1 := outF_snoc f (m.take k) m[k]
            have hm1 := metF_snoc f (m.take k) m[k]
            have ha1 := accF_snoc ⟨key, d.s, Agg.one d.v⟩ f (m.take k) m[k]
            rw [← htk, hfb] at ho1 hm1 ha1
            have ho1' := hid_mk ho1
            have hm1' := hid_mk hm1
            have ha1' := hid_mk ha1
            clear htk ho1 hm1 ha1
            clear hfb
            go_wp2_with fail
            go_quiet (fail)
            have Ov := hid_mk (hO.out.drewN nq)
            have Gv := hid_mk (hG.out.drewN nq)
            have Pv := hid_mk (hP.out.drewN nq)
            have Dv := hid_mk (hD.out.drewN nq)
            have Zv := hid_mk (lib_below_drewN hZr.out nq)
            have bv : Hid (base ≤ (W.drewN nq).heap.size) := hid_mk hbr.out
            clear hO hG hP hD hZr hbr hq17 dc df c0 c1 c2 c3 c4 c5 c6 hmb
            generalize W.drewN nq = Wv at *
            obtain ⟨hmb, c0, c1, c2, c3, c4, c5, c6⟩ := (hRm.out.below Zv.out).paneKn hkm
            obtain ⟨dc, df⟩ := blk_facts Dv.out
            go_wp2_with fail
            refine wp_region_head 30 (by kernel_rfl) (by kernel_rfl) (fun W => ∃ n, W = World.drewN (Wv) n) ⟨1, rfl⟩ ?_ (by decide)
            simp only [List.take_succ_cons, List.take_zero, List.drop_succ_cons, List.drop_zero]
            repeat (go_big_quiet_step ((fail)))
            refine wpQuiet_nil ?_
            rintro W ⟨nq, rfl⟩
            go_wp2_with fail
            refine (refMeet _ _ _ _ _).mono ?_
            rintro e wm ⟨rfl, hbm⟩
            rw [hmt]
            have Ox := hid_mk (Own.below (Ov.out.drewN nq) hbm)
            have Gx := hid_mk (Own.below (Gv.out.drewN nq) hbm)
            have Px := hid_mk (Blk.below (Pv.out.drewN nq) hbm)
            have Dx := hid_mk (Blk.below (Dv.out.drewN nq) hbm)
            have Zx := hid_mk (below_then (lib_below_drewN Zv.out nq) (Zv.out.size) hbm)
            have bx : Hid (base ≤ wm.heap.size) := hid_mk (by have h1 := bv.out; have h2 : Wv.heap.size ≤ wm.heap.size := hbm.size; omega)
            clear Ov Gv Pv Dv Zv bv dc df c0 c1 c2 c3 c4 c5 c6 hmb hSv hMv hbm hmt
            generalize wm = Wx at *
            go_wp2_with fail
            refine NoPanic.normal ?_
            obtain ⟨hmb, c0, c1, c2, c3, c4, c5, c6⟩ := (hRm.out.below Zx.out).paneKn hkm
            have hbl := Blk.new Wx m[k].sp.cells.toArray 28
            have hbx := bx.out
            go_wp2_with (at_builtin; refine wpList_append J undS rfl _ _ rfl base _ (Gx.out.alloc _) rfl (Rd.litS hbl) rfl (by simp; omega) (by simp; omega) ?_; (intro v' w2 hown hg1 hat))
            have hgb := Gx.out.base
            have hZsz := Zx.out.size
            have O2 := hid_mk ((Ox.out.alloc (.cells m[k].sp.cells.toArray 28)).grown hg1 (fun b hb he => (Gx.out.apart Ox.out (by decide)) b he hb))
            have G2 := hid_mk hown
            have P2 := hid_mk ((Px.out.alloc (.cells m[k].sp.cells.toArray 28)).grown hg1 (fun he => by have := hgb _ he; omega))
            have D2 := hid_mk ((Dx.out.alloc (.cells m[k].sp.cells.toArray 28)).grown hg1 (fun he => by have := hgb _ he; omega))
            have Z2 := hid_mk ((Zx.out.alloc (by omega) (.cells m[k].sp.cells.toArray 28)).grown hg1 (by simp; omega) (fun b hb => by have := hgb b hb; omega))
            have b2 : Hid (base ≤ w2.heap.size) := hid_mk (by have := hg1.size; simp at this; omega)
            have hb2 := b2.out
            clear Ox Gx Px Dx Zx bx hown hg1 hgb hbl c0 c1 c2 c3 c4 c5 c6 hmb hbx
            obtain ⟨hmb, c0, c1, c2, c3, c4, c5, c6⟩ := (hRm.out.below Z2.out).paneKn hkm
            obtain ⟨pc, pf⟩ := blk_facts P2.out
            refine wp_region_head 7 (by kernel_rfl) (by kernel_rfl) (fun W => ∃ n, W = World.drewN (w2) n) ⟨1, rfl⟩ ?_ (by decide)
            simp only [List.take_succ_cons, List.take_zero, List.drop_succ_cons, List.drop_zero]
            repeat (go_big_quiet_step ((fail)))
            refine wpQuiet_nil ?_
            rintro W ⟨nq, rfl⟩
            go_wp2_with fail
            refine (refJoin q.sp.s q.sp.e m[k].sp.s m[k].sp.e _).mono ?_
            rintro e w3 ⟨rfl, hb3⟩
            have O3 := hid_mk (Own.below (O2.out.drewN nq) hb3)
            have G3 := hid_mk (Own.below (G2.out.drewN nq) hb3)
            have P3 := hid_mk (Blk.below (P2.out.drewN nq) hb3)
            have D3 := hid_mk (Blk.below (D2.out.drewN nq) hb3)
            have Z3 := hid_mk (below_then (lib_below_drewN Z2.out nq) (Z2.out.size) hb3)
            have b3 : Hid (base ≤ w3.heap.size) := hid_mk (by have h1 := b2.out; have h2 : w2.heap.size ≤ w3.heap.size := hb3.size; omega)
            clear O2 G2 P2 D2 Z2 b2 hb3 c0 c1 c2 c3 c4 c5 c6 hmb pc pf
            obtain ⟨pc, pf⟩ := blk_facts P3.out
            go_wp2_with fail
            refine NoPanic.normal ?_
            have hgs : ∀ (W : World), World.grownBy W ((W.setCell ⟨B, 1, none⟩ (.int .i64 (minI q.sp.s m[k].sp.s))).setCell ⟨B, 2, none⟩ (.int .i64 (maxI q.sp.e m[k].sp.e))) (some B) := fun W => grown_trans (grown_set _ _ _ _) (grown_set _ _ _ _)
            have hgs3 := hid_mk (hgs w3)
            clear hgs pc pf
            have P4 := hid_mk (P3.out.set_12 (a1 := .int .i64 (minI q.sp.s m[k].sp.s)) (a2 := .int .i64 (maxI q.sp.e m[k].sp.e)))
            have D4 := hid_mk (D3.out.grown hgs3.out (by simp; omega))
            have O4 := hid_mk (O3.out.grown hgs3.out (fun b hb he => by
              have := O3.out.base b hb
              injection he; omega))
            have G4 := hid_mk (G3.out.grown hgs3.out (fun b hb he => by
              have := G3.out.base b hb
              injection he; omega))
            have Z4 := hid_mk (Z3.out.grown hgs3.out (by have := Z3.out.size; omega) (fun b hb => by injection hb; omega))
            have b4 : Hid (base ≤ ((w3.setCell ⟨B, 1, none⟩ (.int .i64 (minI q.sp.s m[k].sp.s))).setCell ⟨B, 2, none⟩ (.int .i64 (maxI q.sp.e m[k].sp.e))).heap.size) := hid_mk (Nat.le_trans b3.out hgs3.out.size)
            clear O3 G3 P3 D3 Z3 b3 hgs3
            generalize ((w3.setCell ⟨B, 1, none⟩ (.int .i64 (minI q.sp.s m[k].sp.s))).setCell ⟨B, 2, none⟩ (.int .i64 (maxI q.sp.e m[k].sp.e))) = w4 at *
            obtain ⟨hmb, c0, c1, c2, c3, c4, c5, c6⟩ := (hRm.out.below Z4.out).paneKn hkm
            obtain ⟨pc, pf⟩ := blk_facts P4.out
            go_wp2_with fail
            refine wp_region_head 7 (by kernel_rfl) (by kernel_rfl) (fun W => ∃ n, W = World.drewN (w4) n) ⟨1, rfl⟩ ?_ (by decide)
            simp only [List.take_succ_cons, List.take_zero, List.drop_succ_cons, List.drop_zero]
            repeat (go_big_quiet_step ((fail)))
            refine wpQuiet_nil ?_
            rintro W ⟨nq, rfl⟩
            go_wp2_with fail
            refine (refMerge q.ag m[k].ag _).mono ?_
            rintro e w5 ⟨rfl, hb5⟩
            have O5 := hid_mk (Own.below (O4.out.drewN nq) hb5)
            have G5 := hid_mk (Own.below (G4.out.drewN nq) hb5)
            have P5 := hid_mk (Blk.below (P4.out.drewN nq) hb5)
            have D5 := hid_mk (Blk.below (D4.out.drewN nq) hb5)
            have Z5 := hid_mk (below_then (lib_below_drewN Z4.out nq) (Z4.out.size) hb5)
            have b5 : Hid (base ≤ w5.heap.size) := hid_mk (by have h1 := b4.out; have h2 : w4.heap.size ≤ w5.heap.size := hb5.size; omega)
            clear O4 G4 P4 D4 Z4 b4 hb5 c0 c1 c2 c3 c4 c5 c6 hmb pc pf
            obtain ⟨pc, pf⟩ := blk_facts P5.out
            generalize hag : q.ag.merge m[k].ag = ag at *
            have hag' := hid_mk hag
            clear hag
            simp only [Agg.val]
            go_wp2_with fail
            refine NoPanic.normal ?_
            have hfin : ∀ W, World.grownBy W ((((W.setCell ⟨B, 3, none⟩ (.int .i64 ag.n)).setCell ⟨B, 4, none⟩ (.int .i64 ag.sum)).setCell ⟨B, 5, none⟩ (.int .i64 ag.lo)).setCell ⟨B, 6, none⟩ (.int .i64 ag.hi)) (some B) := fun W =>
              grown_trans (grown_trans (grown_trans (grown_set _ _ _ _) (grown_set _ _ _ _)) (grown_set _ _ _ _)) (grown_set _ _ _ _)
            have hg6 := hid_mk (hfin w5)
            clear hfin pc pf
            go_wp2_with fail
            refine ⟨rfl, ⟨k + 1, ⟨q.key, ⟨minI q.sp.s m[k].sp.s, maxI q.sp.e m[k].sp.e⟩, ag⟩, by omega, by go_num, ?_, ?_, ?_, ?_, ?_, ?_, ?_⟩, ?_⟩
            · exact hid_mk (by rw [ha1'.out, ← hq.out, ← hag'.out]; rfl)
            · have ho1'' : outF f (m.take (k + 1)) = outF f (m.take k) := by rw [ho1'.out]; simp
              exact hid_mk (by
                rw [ho1'']
                exact O5.out.grown hg6.out (fun b hb he => by
                  have := O5.out.base b hb
                  injection he; omega))
            · have hm1'' : (metF f (m.take (k + 1))).map Pane.sp = (metF f (m.take k)).map Pane.sp ++ [m[k].sp] := by rw [hm1'.out]; simp
              exact hid_mk (by
                rw [hm1'']
                exact G5.out.grown hg6.out (fun b hb he => by
                  have := G5.out.base b hb
                  injection he; omega))
            · exact hid_mk P5.out.set_36
            · exact hid_mk (D5.out.grown hg6.out (by simp; omega))
            · exact hid_mk (Z5.out.grown hg6.out (by have := Z5.out.size; omega) (fun b hb => by injection hb; omega))
            · exact hid_mk (Nat.le_trans b5.out hg6.out.size)
            · show m.length - (intOf (Value.int .i64 ((k : Int) + 1))).toNat < m2
              simp only [intOf]; omega
        · have hfb : f m[k] = false := by rw [hfe]; simp [hMv]
          have hdd : decide (m[k].sp.s < m[k].sp.e) = false := by simp [hMv]
          clear hfe
          have htk : m.take (k + 1) = m.take k ++ [m[k]] := List.take_succ_eq_append_getElem hkm
          have ho1 := outF_snoc f (m.take k) m[k]
          have hm1 := metF_snoc f (m.take k) m[k]
          have ha1 := accF_snoc ⟨key, d.s, Agg.one d.v⟩ f (m.take k) m[k]
          rw [← htk, hfb] at ho1 hm1 ha1
          have ho1' := hid_mk ho1
          have hm1' := hid_mk hm1
          have ha1' := hid_mk ha1
          clear htk ho1 hm1 ha1
          clear hfb
          go_wp2_with fail
          go_quiet (fail)
          have Ov := hid_mk (hO.out.drewN nq)
          have Gv := hid_mk (hG.out.drewN nq)
          have Pv := hid_mk (hP.out.drewN nq)
          have Dv := hid_mk (hD.out.drewN nq)
          have Zv := hid_mk (lib_below_drewN hZr.out nq)
          have bv : Hid (base ≤ (W.drewN nq).heap.size) := hid_mk hbr.out
          clear hO hG hP hD hZr hbr hq17 dc df c0 c1 c2 c3 c4 c5 c6 hmb
          generalize W.drewN nq = Wv at *
          obtain ⟨hmb, c0, c1, c2, c3, c4, c5, c6⟩ := (hRm.out.below Zv.out).paneKn hkm
          obtain ⟨dc, df⟩ := blk_facts Dv.out
          go_wp2_with fail
          refine wp_region_head 30 (by kernel_rfl) (by kernel_rfl) (fun W => ∃ n, W = World.drewN (Wv) n) ⟨1, rfl⟩ ?_ (by decide)
          simp only [List.take_succ_cons, List.take_zero, List.drop_succ_cons, List.drop_zero]
          repeat (go_big_quiet_step ((fail)))
          refine wpQuiet_nil ?_
          rintro W ⟨nq, rfl⟩
          go_wp2_with fail
          refine NoPanic.normal ?_
          have Ox := hid_mk (Ov.out.drewN nq)
          have Gx := hid_mk (Gv.out.drewN nq)
          have Px := hid_mk (Pv.out.drewN nq)
          have Dx := hid_mk (Dv.out.drewN nq)
          have Zx := hid_mk (lib_below_drewN Zv.out nq)
          have bx : Hid (base ≤ (Wv.drewN nq).heap.size) := hid_mk bv.out
          clear Ov Gv Pv Dv Zv bv dc df c0 c1 c2 c3 c4 c5 c6 hmb hSv
          generalize Wv.drewN nq = Wx at *
          obtain ⟨hmb, c0, c1, c2, c3, c4, c5, c6⟩ := (hRm.out.below Zx.out).paneKn hkm
          have hbl := Blk.new Wx m[k].cells.toArray 32
          have hbx := bx.out
          go_wp2_with (at_builtin; refine wpList_append I undP rfl _ _ rfl base _ (Ox.out.alloc _) rfl (Rd.lit hbl) rfl (by simp; omega) (by simp; omega) ?_; (intro v' w2 hown hg1 hat))
          have hob := Ox.out.base
          have hZsz := Zx.out.size
          refine ⟨rfl, ⟨k + 1, q, by omega, by go_num, ?_, ?_, ?_, ?_, ?_, ?_, ?_⟩, ?_⟩
          · exact hid_mk (by rw [ha1'.out, hq.out]; rfl)
          · exact hid_mk (by rw [ho1'.out]; exact hown)
          · have hm1'' : metF f (m.take (k + 1)) = metF f (m.take k) := by rw [hm1'.out]; simp
            exact hid_mk (by rw [hm1'']; exact (Gx.out.alloc _).grown hg1 (fun b hb he => (Ox.out.apart Gx.out (by decide)) b he hb))
          · exact hid_mk ((Px.out.alloc _).grown hg1 (fun he => by have := hob _ he; omega))
          · exact hid_mk ((Dx.out.alloc _).grown hg1 (fun he => by have := hob _ he; omega))
          · exact hid_mk ((Zx.out.alloc (by omega) _).grown hg1 (by simp; omega) (fun b hb => by have := hob b hb; omega))
          · exact hid_mk (by have := hg1.size; simp at this; omega)
          · show m.length - (intOf (Value.int .i64 ((k : Int) + 1))).toNat < m2
            simp only [intOf]; omega
      · have hfb : f m[k] = false := by rw [hfe]; simp [hSv]
        have hdd : decide (d.s.s < d.s.e) = false := by simp [hSv]
        clear hfe
        have htk : m.take (k + 1) = m.take k ++ [m[k]] := List.take_succ_eq_append_getElem hkm
        have ho1 := outF_snoc f (m.take k) m[k]
        have hm1 := metF_snoc f (m.take k) m[k]
        have ha1 := accF_snoc ⟨key, d.s, Agg.one d.v⟩ f (m.take k) m[k]
        rw [← htk, hfb] at ho1 hm1 ha1
        have ho1' := hid_mk ho1
        have hm1' := hid_mk hm1
        have ha1' := hid_mk ha1
        clear htk ho1 hm1 ha1
        clear hfb
        go_wp2_with fail
        go_quiet (fail)
        have Ov := hid_mk (hO.out.drewN nq)
        have Gv := hid_mk (hG.out.drewN nq)
        have Pv := hid_mk (hP.out.drewN nq)
        have Dv := hid_mk (hD.out.drewN nq)
        have Zv := hid_mk (lib_below_drewN hZr.out nq)
        have bv : Hid (base ≤ (W.drewN nq).heap.size) := hid_mk hbr.out
        clear hO hG hP hD hZr hbr hq17 dc df c0 c1 c2 c3 c4 c5 c6 hmb
        generalize W.drewN nq = Wv at *
        obtain ⟨hmb, c0, c1, c2, c3, c4, c5, c6⟩ := (hRm.out.below Zv.out).paneKn hkm
        obtain ⟨dc, df⟩ := blk_facts Dv.out
        go_wp2_with fail
        refine wp_region_head 30 (by kernel_rfl) (by kernel_rfl) (fun W => ∃ n, W = World.drewN (Wv) n) ⟨1, rfl⟩ ?_ (by decide)
        simp only [List.take_succ_cons, List.take_zero, List.drop_succ_cons, List.drop_zero]
        repeat (go_big_quiet_step ((fail)))
        refine wpQuiet_nil ?_
        rintro W ⟨nq, rfl⟩
        go_wp2_with fail
        refine NoPanic.normal ?_
        have Ox := hid_mk (Ov.out.drewN nq)
        have Gx := hid_mk (Gv.out.drewN nq)
        have Px := hid_mk (Pv.out.drewN nq)
        have Dx := hid_mk (Dv.out.drewN nq)
        have Zx := hid_mk (lib_below_drewN Zv.out nq)
        have bx : Hid (base ≤ (Wv.drewN nq).heap.size) := hid_mk bv.out
        clear Ov Gv Pv Dv Zv bv dc df c0 c1 c2 c3 c4 c5 c6 hmb hSv
        generalize Wv.drewN nq = Wx at *
        obtain ⟨hmb, c0, c1, c2, c3, c4, c5, c6⟩ := (hRm.out.below Zx.out).paneKn hkm
        have hbl := Blk.new Wx m[k].cells.toArray 32
        have hbx := bx.out
        go_wp2_with (at_builtin; refine wpList_append I undP rfl _ _ rfl base _ (Ox.out.alloc _) rfl (Rd.lit hbl) rfl (by simp; omega) (by simp; omega) ?_; (intro v' w2 hown hg1 hat))
        have hob := Ox.out.base
        have hZsz := Zx.out.size
        refine ⟨rfl, ⟨k + 1, q, by omega, by go_num, ?_, ?_, ?_, ?_, ?_, ?_, ?_⟩, ?_⟩
        · exact hid_mk (by rw [ha1'.out, hq.out]; rfl)
        · exact hid_mk (by rw [ho1'.out]; exact hown)
        · have hm1'' : metF f (m.take (k + 1)) = metF f (m.take k) := by rw [hm1'.out]; simp
          exact hid_mk (by rw [hm1'']; exact (Gx.out.alloc _).grown hg1 (fun b hb he => (Ox.out.apart Gx.out (by decide)) b he hb))
        · exact hid_mk ((Px.out.alloc _).grown hg1 (fun he => by have := hob _ he; omega))
        · exact hid_mk ((Dx.out.alloc _).grown hg1 (fun he => by have := hob _ he; omega))
        · exact hid_mk ((Zx.out.alloc (by omega) _).grown hg1 (by simp; omega) (fun b hb => by have := hob b hb; omega))
        · exact hid_mk (by have := hg1.size; simp at this; omega)
        · show m.length - (intOf (Value.int .i64 ((k : Int) + 1))).toNat < m2
          simp only [intOf]; omega
    · obtain rfl : k = m.length := by omega
      rw [List.take_of_length_le (Nat.le_refl _)] at hq hO hG
      clear hlo hlm hkm
      have hlo := outF_len f m
      have hlm := metF_len f m
      obtain ⟨dc, df⟩ := blk_facts hD.out
      go_wp2_with fail
      refine (paneFind _ m d.s _ (hRm.out.below hZr.out) (by omega) hs.out).mono ?_
      rintro e w2 ⟨rfl, hb2⟩
      have O2 := hid_mk (hO.out.below hb2)
      have G2 := hid_mk (hG.out.below hb2)
      have P2 := hid_mk (hP.out.below hb2)
      have D2 := hid_mk (hD.out.below hb2)
      have Z2 := hid_mk (below_then hZr.out hZr.out.size hb2)
      have b2 : Hid (base ≤ w2.heap.size) := hid_mk (by have h1 := hbr.out; have h2 := hb2.size; omega)
      obtain ⟨fp, hfp⟩ : ∃ fp, fp = findP m d.s := ⟨_, rfl⟩
      rw [← hfp]
      have hfp' := hid_mk hfp
      clear hO hG hP hD hZr hbr hb2 dc df hfp
      simp only [Pane.val]
      go_wp2_with fail
      refine (refOf _ m key _ ((hRm.out.below Z2.out).alloc _) (by omega)).mono ?_
      rintro e w3 ⟨vh, rfl, hH3, hb3⟩
      have F3 := hid_mk ((Blk.new w2 (#[.string fp.key, .int .i64 fp.sp.s, .int .i64 fp.sp.e, .int .i64 fp.ag.n, .int .i64 fp.ag.sum, .int .i64 fp.ag.lo, .int .i64 fp.ag.hi] : Array Value) 32).below hb3)
      have O3 := hid_mk (Own.below (O2.out.alloc (.cells (#[.string fp.key, .int .i64 fp.sp.s, .int .i64 fp.sp.e, .int .i64 fp.ag.n, .int .i64 fp.ag.sum, .int .i64 fp.ag.lo, .int .i64 fp.ag.hi] : Array Value) 32)) hb3)
      have G3 := hid_mk (Own.below (G2.out.alloc (.cells (#[.string fp.key, .int .i64 fp.sp.s, .int .i64 fp.sp.e, .int .i64 fp.ag.n, .int .i64 fp.ag.sum, .int .i64 fp.ag.lo, .int .i64 fp.ag.hi] : Array Value) 32)) hb3)
      have P3 := hid_mk (Blk.below (P2.out.alloc (.cells (#[.string fp.key, .int .i64 fp.sp.s, .int .i64 fp.sp.e, .int .i64 fp.ag.n, .int .i64 fp.ag.sum, .int .i64 fp.ag.lo, .int .i64 fp.ag.hi] : Array Value) 32)) hb3)
      have D3 := hid_mk (Blk.below (D2.out.alloc (.cells (#[.string fp.key, .int .i64 fp.sp.s, .int .i64 fp.sp.e, .int .i64 fp.ag.n, .int .i64 fp.ag.sum, .int .i64 fp.ag.lo, .int .i64 fp.ag.hi] : Array Value) 32)) hb3)
      have Z3 := hid_mk (below_then (Z2.out.alloc Z2.out.size _) (by have := Z2.out.size; simp; omega) hb3)
      have H3 := hid_mk hH3.rd
      have b3 : Hid (base ≤ w3.heap.size) := hid_mk (by have h1 := b2.out; have h2 := hb3.size; simp at h2; omega)
      rw [of_self hks.out] at H3
      clear O2 G2 P2 D2 Z2 b2 hb3 hH3
      have hoa : outM m d.s = outF f m := by rw [hf'.out]; rfl
      have hma : metM m d.s = metF f m := by rw [hf'.out]; rfl
      have hqa : accM ⟨key, d.s, Agg.one d.v⟩ m d.s = q := by rw [hq.out, hf'.out]; rfl
      have hoa' := hid_mk hoa
      have hma' := hid_mk hma
      have hqa' := hid_mk hqa
      clear hoa hma hqa
      obtain ⟨Ao, co, hov, _⟩ := O3.out.rd.slice
      obtain ⟨Ag, cg, hgv, _⟩ := G3.out.rd.slice
      rw [hov] at O3 ⊢
      rw [hgv] at G3 ⊢
      simp only [List.length_map] at G3 ⊢
      clear hov hgv
      go_wp2_with fail
      refine wp_loopF (fun u => (⟨#[.slice (some ⟨db, do', none⟩) ds.length c, .string key, u 2, u 3, u 4, .bool true, .slice Am m.length cm, .int .i64 i, .pointer (some ⟨wr.heap.size, 0, none⟩), .pointer (some ⟨B, 0, none⟩), .slice Ao (outF f m).length co, .slice Ag (metF f m).length cg, .int .i64 1, .bool true, u 14, u 15, u 16, u 17, vh, u 19, u 20, u 21, u 22, u 23, u 24, u 25, u 26, u 27, u 28, u 29, u 30, u 31, u 32, u 33, u 34, u 35, u 36, u 37, u 38, u 39, u 40, u 41, u 42, u 43, u 44, u 45, u 46, u 47, u 48, u 49, u 50, u 51, u 52, u 53, u 54, u 55, u 56, u 57, u 58, u 59, u 60, u 61, u 62, u 63, u 64, u 65, u 66, u 67, u 68, u 69, u 70, u 71, u 72, u 73, u 74, u 75, u 76, u 77, u 78, u 79, u 80, u 81, u 82, u 83, u 84, u 85, u 86, u 87, u 88, u 89, u 90, u 91, u 92, u 93, u 94, u 95, u 96, u 97, u 98, u 99, u 100, u 101, u 102, u 103, u 104, u 105, u 106, u 107, u 108, u 109, u 110, u 111, u 112, u 113, u 114, u 115, u 116, u 117, u 118, u 119, u 120, u 121, u 122, u 123, u 124, u 125, u 126, u 127, u 128, u 129, u 130, u 131, u 132, u 133, u 134, u 135, u 136, u 137, u 138, u 139, u 140, u 141, u 142, u 143, u 144, u 145, u 146, u 147, u 148, u 149, u 150, u 151, u 152, u 153, u 154, u 155, u 156, u 157, u 158, u 159, u 160, u 161, u 162, u 163, u 164, u 165, u 166, u 167, u 168, u 169, u 170, u 171, u 172, u 173, u 174, u 175, u 176, u 177, u 178, u 179, u 180, u 181, u 182, u 183, u 184, u 185, u 186, u 187, u 188, u 189, u 190, u 191, u 192, u 193, u 194, u 195, u 196, u 197, u 198, u 199, u 200, u 201, u 202, u 203, u 204, u 205, u 206, u 207, u 208, u 209, u 210, u 211, u 212, u 213, u 214, u 215, u 216, u 217, u 218, u 219, u 220, u 221, u 222, u 223, u 224, u 225, u 226, u 227, u 228, u 229, u 230, u 231, u 232, u 233, u 234, u 235, u 236, u 237, u 238, u 239, u 240, u 241, u 242, u 243, u 244, u 245, u 246, u 247, u 248, u 249, u 250, u 251, u 252, u 253, u 254, u 255, u 256, u 257, u 258, u 259, u 260, u 261, u 262, u 263, u 264, u 265, u 266, u 267, u 268, u 269, u 270, u 271, u 272, u 273, u 274, u 275, u 276, u 277, u 278, u 279, u 280, u 281, u 282, u 283, u 284, u 285, u 286, u 287, u 288, u 289, u 290], []⟩ : Act)) (fun u W => ∃ j : Nat, j ≤ (outF f m).length ∧ u 22 = .int .i64 j ∧ Hid (∀ x ∈ (outF f m).take j, x.sp ≠ q.sp) ∧ Hid (∃ nd, W = w3.drewN nd)) (fun u _ => (outF f m).length - (intOf (u 22)).toNat) rfl ?_ ?_
      · exact ⟨0, Nat.zero_le _, rfl, hid_mk (fun x hx => by simp at hx), hid_mk ⟨0, rfl⟩⟩
      intro u W m3 hrel hm3
      obtain ⟨j, hj, h22, hne, hW⟩ := hrel
      rw [h22] at hm3
      have hm3' : (outF f m).length - j = m3 := by rw [← hm3]; simp [intOf]
      dsimp only
      rw [h22]
      clear h22 hm3
      obtain ⟨nd, rfl⟩ := hW.out
      clear hW
      by_cases hjm : j < (outF f m).length
      · obtain ⟨rb, ro, rfl, hrb, c0, c1, c2, c3, c4, c5, c6⟩ := O3.out.rd.pane hjm
        obtain ⟨pc, pf⟩ := blk_facts P3.out
        have hPl := P3.out.lt
        have hg := eqgS
        have htk : (outF f m).take (j + 1) = (outF f m).take j ++ [(outF f m)[j]] := List.take_succ_eq_append_getElem hjm
        have htk' := hid_mk htk
        clear htk
        generalize hxj : (outF f m)[j] = xj at *
        clear hxj
        by_cases hxq : xj.sp = q.sp
        · have hq39 : ∀ W, (binOp .eql 28 xj.sp.val q.sp.val).run Try.prog W = .ok (.bool true) W := fun W => by rw [eqlS, hxq]; simp
          simp only [Span.val] at hq39
          clear hxq
          go_wp2_with fail
          go_quiet (fail)
          go_wp2_with fail
          refine hQ'.out _ _ rfl rfl ?_
          have Z9 := below_then hZ.out hZ.out.size Z3.out
          (iterate 24 (try (first | (with_reducible exact Below.size (by assumption)) | ((with_reducible show (_ : Nat) ≤ _); (try simp only [drewN_heap]); first | (with_reducible exact Below.size (by assumption)) | omega | (simp <;> omega)) | (with_reducible exact Below.refl _ _) | (with_reducible exact Below.size (Below.drew (by assumption))) | (with_reducible assumption) | (with_reducible refine Below.alloc ?_ ?_ _) | (with_reducible refine Below.drew ?_) | (with_reducible refine lib_below_drewN ?_ _) | (with_reducible refine Below.setCell ?_ ?_ _) | (with_reducible refine below_then ?_ ?_ (by assumption)))))
        · have hq39 : ∀ W, (binOp .eql 28 xj.sp.val q.sp.val).run Try.prog W = .ok (.bool false) W := fun W => by rw [eqlS]; simp [hxq]
          simp only [Span.val] at hq39
          have hxq' := hid_mk hxq
          clear hxq
          go_wp2_with fail
          go_quiet (fail)
          go_wp2_with fail
          refine ⟨rfl, ⟨j + 1, by omega, by go_num, hid_mk (fun x hx => ?_), hid_mk ⟨nd + nq, by first | rfl | rw [World.drewN_drewN]⟩⟩, ?_⟩
          · rw [htk'.out] at hx
            rcases List.mem_append.1 hx with h | h
            · exact hne.out x h
            · rw [List.mem_singleton.1 h]; exact hxq'.out
          · show (outF f m).length - (intOf (Value.int .i64 ((j : Int) + 1))).toNat < m3
            simp only [intOf]; omega
      · obtain rfl : j = (outF f m).length := by omega
        rw [List.take_of_length_le (Nat.le_refl _)] at hne
        have O4 := hid_mk (O3.out.drewN nd)
        have G4 := hid_mk (G3.out.drewN nd)
        have P4 := hid_mk (P3.out.drewN nd)
        have D4 := hid_mk (D3.out.drewN nd)
        have Z4 := hid_mk (lib_below_drewN Z3.out nd)
        have H4 := hid_mk (H3.out.drewN nd)
        clear O3 G3 P3 D3 Z3 H3 F3 b3
        generalize w3.drewN nd = w4 at *
        obtain ⟨pc, pf⟩ := blk_facts P4.out
        go_wp2_with fail
        refine (law07set _ (outF f m) q _ O4.out.rd (by omega)).mono ?_
        rintro e w5 ⟨vw, rfl, hS5, hb5⟩
        have H5 := hid_mk (H4.out.below hb5)
        have D5 := hid_mk (D4.out.below hb5)
        have P5 := hid_mk (P4.out.below hb5)
        have G5 := hid_mk (G4.out.below hb5)
        have Z5 := hid_mk (below_then Z4.out Z4.out.size hb5)
        have S5 := hid_mk hS5.rd
        clear pc pf H4 D4 O4 G4 P4 Z4 hb5 hS5
        obtain ⟨dc, df⟩ := blk_facts D5.out
        go_wp2_with fail
        refine (paneMerge _ m key d.s d.v _ (hRm.out.below Z5.out) (by omega) (by rw [hoa'.out]; exact hs.out.out f)).mono ?_
        rintro e w6 ⟨v1, v2, rfl, hM1, hM2, hb6⟩
        rw [hqa'.out, hoa'.out, merge_set (hs.out.out f)] at hM1
        rw [hqa'.out, hma'.out] at hM2
        rw [hqa'.out]
        have H6 := hid_mk ((H5.out.below hb6).alloc (.cells #[.int .i64 q.sp.s, .int .i64 q.sp.e] 28))
        have P6 := hid_mk ((P5.out.below hb6).alloc (.cells #[.int .i64 q.sp.s, .int .i64 q.sp.e] 28))
        have G6 := hid_mk ((G5.out.below hb6).alloc (.cells #[.int .i64 q.sp.s, .int .i64 q.sp.e] 28)).rd
        have N6 := hid_mk (Blk.new w6 #[.int .i64 q.sp.s, .int .i64 q.sp.e] 28)
        have S6 := hid_mk ((S5.out.below hb6).alloc (.cells #[.int .i64 q.sp.s, .int .i64 q.sp.e] 28))
        have M6 := hid_mk (hM1.alloc (.cells #[.int .i64 q.sp.s, .int .i64 q.sp.e] 28)).rd
        have V6 := hid_mk (hM2.alloc (.cells #[.int .i64 q.sp.s, .int .i64 q.sp.e] 28)).rd
        have hZ5s := Z5.out.size
        have hb6s := hb6.size
        have Z6 := hid_mk ((below_then Z5.out Z5.out.size hb6).alloc (by omega) (.cells #[.int .i64 q.sp.s, .int .i64 q.sp.e] 28))
        clear dc df H5 D5 P5 G5 Z5 S5 hM1 hM2 hb6 hZ5s hb6s
        simp only [Span.val]
        obtain ⟨Av, cv, hvv, _⟩ := V6.out.slice
        rw [hvv] at V6 ⊢
        clear hvv
        go_wp2_with fail
        generalize hwx : w6.alloc (.cells #[.int .i64 q.sp.s, .int .i64 q.sp.e] 28) = w8 at H6 P6 G6 N6 S6 M6 V6 Z6 ⊢
        clear hwx
        refine wp_loopF (fun u => (⟨#[.slice (some ⟨db, do', none⟩) ds.length c, .string key, u 2, u 3, u 4, .bool true, .slice Am m.length cm, .int .i64 i, .pointer (some ⟨wr.heap.size, 0, none⟩), .pointer (some ⟨B, 0, none⟩), u 10, .slice Ag (metF f m).length cg, .int .i64 1, .bool true, u 14, u 15, u 16, u 17, vh, u 19, u 20, u 21, u 22, vw, v1, .slice Av (dropS ((metF f m).map Pane.sp) q.sp).length cv, .pointer (some ⟨w6.heap.size, 0, none⟩), u 27, u 28, u 29, u 30, u 31, u 32, u 33, u 34, u 35, u 36, u 37, u 38, u 39, u 40, u 41, u 42, u 43, u 44, u 45, u 46, u 47, u 48, u 49, u 50, u 51, u 52, u 53, u 54, u 55, u 56, u 57, u 58, u 59, u 60, u 61, u 62, u 63, u 64, u 65, u 66, u 67, u 68, u 69, u 70, u 71, u 72, u 73, u 74, u 75, u 76, u 77, u 78, u 79, u 80, u 81, u 82, u 83, u 84, u 85, u 86, u 87, u 88, u 89, u 90, u 91, u 92, u 93, u 94, u 95, u 96, u 97, u 98, u 99, u 100, u 101, u 102, u 103, u 104, u 105, u 106, u 107, u 108, u 109, u 110, u 111, u 112, u 113, u 114, u 115, u 116, u 117, u 118, u 119, u 120, u 121, u 122, u 123, u 124, u 125, u 126, u 127, u 128, u 129, u 130, u 131, u 132, u 133, u 134, u 135, u 136, u 137, u 138, u 139, u 140, u 141, u 142, u 143, u 144, u 145, u 146, u 147, u 148, u 149, u 150, u 151, u 152, u 153, u 154, u 155, u 156, u 157, u 158, u 159, u 160, u 161, u 162, u 163, u 164, u 165, u 166, u 167, u 168, u 169, u 170, u 171, u 172, u 173, u 174, u 175, u 176, u 177, u 178, u 179, u 180, u 181, u 182, u 183, u 184, u 185, u 186, u 187, u 188, u 189, u 190, u 191, u 192, u 193, u 194, u 195, u 196, u 197, u 198, u 199, u 200, u 201, u 202, u 203, u 204, u 205, u 206, u 207, u 208, u 209, u 210, u 211, u 212, u 213, u 214, u 215, u 216, u 217, u 218, u 219, u 220, u 221, u 222, u 223, u 224, u 225, u 226, u 227, u 228, u 229, u 230, u 231, u 232, u 233, u 234, u 235, u 236, u 237, u 238, u 239, u 240, u 241, u 242, u 243, u 244, u 245, u 246, u 247, u 248, u 249, u 250, u 251, u 252, u 253, u 254, u 255, u 256, u 257, u 258, u 259, u 260, u 261, u 262, u 263, u 264, u 265, u 266, u 267, u 268, u 269, u 270, u 271, u 272, u 273, u 274, u 275, u 276, u 277, u 278, u 279, u 280, u 281, u 282, u 283, u 284, u 285, u 286, u 287, u 288, u 289, u 290], []⟩ : Act)) (fun u W => ∃ j : Nat, j ≤ (metF f m).length ∧ u 28 = .int .i64 j ∧ u 27 = .int .i64 (dropS (((metF f m).map Pane.sp).take j) q.sp).length ∧ Hid (∃ nd, W = w8.drewN nd)) (fun u _ => (metF f m).length - (intOf (u 28)).toNat) rfl ?_ ?_
        · exact ⟨0, Nat.zero_le _, rfl, rfl, hid_mk ⟨0, rfl⟩⟩
        intro u W m4 hrel hm4
        obtain ⟨j, hj, h28, h27, hW⟩ := hrel
        rw [h28] at hm4
        have hm4' : (metF f m).length - j = m4 := by rw [← hm4]; simp [intOf]
        dsimp only
        rw [h28, h27]
        clear h28 h27 hm4
        obtain ⟨nd, rfl⟩ := hW.out
        clear hW
        have hgl : (dropS ((metF f m).map Pane.sp) q.sp).length ≤ (metF f m).length := by
          have := List.length_filter_le (fun x : Span => !decide (x = q.sp)) ((metF f m).map Pane.sp)
          unfold dropS; simpa using this
        by_cases hjm : j < (metF f m).length
        · have hjm' : j < ((metF f m).map Pane.sp).length := by simpa using hjm
          obtain ⟨rb, ro, hGe, hrb, c0, c1⟩ := G6.out.span hjm'
          subst hGe
          obtain ⟨pc, pf⟩ := blk_facts P6.out
          have hPl := P6.out.lt
          have hg := eqgS
          have htk : ((metF f m).map Pane.sp).take (j + 1) = ((metF f m).map Pane.sp).take j ++ [((metF f m).map Pane.sp)[j]] := List.take_succ_eq_append_getElem hjm'
          have htk' := hid_mk htk
          have hda := hid_mk (fun h => drop_at (l := (metF f m).map Pane.sp) (s := q.sp) hjm' h)
          clear htk
          generalize hxj : ((metF f m).map Pane.sp)[j] = xj at *
          clear hxj
          by_cases hxq : xj = q.sp
          · have hq48 : ∀ W, (binOp .eql 28 xj.val q.sp.val).run Try.prog W = .ok (.bool true) W := fun W => by rw [eqlS, hxq]; simp
            simp only [Span.val] at hq48
            have hds : Hid (dropS (((metF f m).map Pane.sp).take (j + 1)) q.sp = dropS (((metF f m).map Pane.sp).take j) q.sp) := hid_mk (by rw [htk'.out, drop_snoc, if_pos hxq, List.append_nil])
            clear hxq
            go_wp2_with fail
            go_quiet (fail)
            go_wp2_with fail
            refine ⟨rfl, ⟨j + 1, by omega, by go_num, ?_, hid_mk ⟨nd + nq, by first | rfl | rw [World.drewN_drewN]⟩⟩, ?_⟩
            · rw [hds.out]; rfl
            · show (metF f m).length - (intOf (Value.int .i64 ((j : Int) + 1))).toNat < m4
              simp only [intOf]; omega
          · have hq48 : ∀ W, (binOp .eql 28 xj.val q.sp.val).run Try.prog W = .ok (.bool false) W := fun W => by rw [eqlS]; simp [hxq]
            have hq51 : ∀ W, (binOp .neq 28 xj.val xj.val).run Try.prog W = .ok (.bool false) W := fun W => by rw [neqS]; simp
            simp only [Span.val] at hq48 hq51
            have hds : Hid (dropS (((metF f m).map Pane.sp).take (j + 1)) q.sp = dropS (((metF f m).map Pane.sp).take j) q.sp ++ [xj]) := hid_mk (by rw [htk'.out, drop_snoc, if_neg hxq])
            obtain ⟨hlt2, hval⟩ := hda.out hxq
            obtain ⟨vb, vo, hVe, hvb, d0, d1⟩ := V6.out.span hlt2
            subst hVe
            rw [hval] at d0 d1
            clear hxq hval
            obtain ⟨nn, hnn⟩ : ∃ nn, nn = (dropS (((metF f m).map Pane.sp).take j) q.sp).length := ⟨_, rfl⟩
            rw [← hnn] at hlt2 d0 d1 ⊢
            have hnn' := hid_mk hnn
            clear hnn
            go_wp2_with fail
            go_quiet (fail)
            generalize nq = nq0 at *
            go_wp2_with fail
            go_quiet (fail)
            go_wp2_with fail
            refine ⟨rfl, ⟨j + 1, by omega, by go_num, ?_, hid_mk ⟨nd + nq0 + nq, by first | rfl | (rw [World.drewN_drewN, World.drewN_drewN])⟩⟩, ?_⟩
            · rw [hds.out, List.length_append, ← hnn'.out]
              go_num
            · show (metF f m).length - (intOf (Value.int .i64 ((j : Int) + 1))).toNat < m4
              simp only [intOf]; omega
        · obtain rfl : j = (metF f m).length := by omega
          have htl : ((metF f m).map Pane.sp).take (metF f m).length = (metF f m).map Pane.sp := List.take_of_length_le (by simp)
          rw [htl]
          have H9 := hid_mk (H6.out.drewN nd)
          have P9 := hid_mk (P6.out.drewN nd)
          have N9 := hid_mk (N6.out.drewN nd)
          have S9 := hid_mk (S6.out.drewN nd)
          have M9 := hid_mk (M6.out.drewN nd)
          have Z9 := hid_mk (lib_below_drewN Z6.out nd)
          clear H6 P6 G6 N6 S6 M6 V6 Z6 htl
          generalize w8.drewN nd = w9 at *
          obtain ⟨pc, pf⟩ := blk_facts P9.out
          obtain ⟨nc, nf⟩ := blk_facts N9.out
          have hg := eqgS
          have hqn : ∀ W, (binOp .neq 28 q.sp.val q.sp.val).run Try.prog W = .ok (.bool false) W := fun W => by rw [neqS]; simp
          simp only [Span.val] at hqn
          have hsl := set_len (outF f m) q
          go_wp2_with fail
          refine (refSame _ _ _ _ _ M9.out S9.out (by omega) (by omega)).mono ?_
          rintro e w10 ⟨rfl, hb10⟩
          rw [decide_eq_true rfl]
          have H10 := hid_mk (H9.out.below hb10)
          have Z10 := hid_mk (below_then Z9.out Z9.out.size hb10)
          have S10 := hid_mk (S9.out.below hb10)
          clear H9 P9 N9 S9 M9 Z9 hb10 pc pf nc nf
          go_wp2_with fail
          refine (refSame _ _ _ _ _ (hRm.out.below Z10.out) H10.out (by omega) (by omega)).mono ?_
          rintro e w11 ⟨rfl, hb11⟩
          rw [decide_eq_true rfl]
          have Z11 := hid_mk (below_then Z10.out Z10.out.size hb11)
          have S11 := hid_mk (S10.out.below hb11)
          clear H10 Z10 S10 hb11
          go_wp2_with fail
          refine ⟨rfl, ⟨i + 1, setP (outF f m) q, by omega, by go_num, S11, ?_, ?_, ?_, ?_⟩, ?_⟩
          · exact hid_mk (set_rise (hs.out.out f) q hne.out)
          · exact hid_mk (keys_set (keys_out hks.out f) (by rw [hq.out, acc_key]))
          · exact hid_mk (by omega)
          · exact hid_mk (below_then hZ.out hZ.out.size Z11.out)
          · show ds.length - (intOf (Value.int .i64 ((i : Int) + 1))).toNat < mm
            simp only [intOf]; omega
end Go.Proofs.Ytkmjehodmfnihaa
