/-
  slices.Insert of one pane.
-/
import Derived.Test.YtkmjehodmfnihaaCopy
import Derived.Test.YtkmjehodmfnihaaPanes
set_option linter.unusedSimpArgs false
set_option linter.unusedVariables false
namespace Go.Proofs.Ytkmjehodmfnihaa
open Go.RowKit

/-- a literal of one pane -/
theorem Rd.lit {w : World} {vb : Nat} {p : Pane} (h : Blk w vb p.cells.toArray 32) : Rd encP w (.slice (some ⟨vb, 0, none⟩) 1 1) [p] := by
  refine ⟨⟨_, 1, rfl, by simp, by simp [maxLen], fun _ => ⟨vb, 0, rfl, h.lt, fun j u hu => ?_⟩⟩⟩
  have hc := (blk_facts h).1 (0 + j)
  rw [hc]
  rw [Enc.flat_one] at hu
  simpa [encP] using hu

set_option maxRecDepth 100000 in
set_option maxHeartbeats 400000 in
theorem insertEnd (v : Value) (xs : List Pane) (base vb : Nat) (p : Pane) (w : World) (hO : Own encP 32 w base v xs) (hb : base ≤ w.heap.size) (hlen : xs.length < 1000000) (hv : Blk w vb p.cells.toArray 32) :
    Calls Try.prog 41 #[v, .int .i64 xs.length, .slice (some ⟨vb, 0, none⟩) 1 1] w fun e w' => ∃ v', e = .returned v' ∧ Own encP 32 w' base v' (xs ++ [p]) ∧ w.grownBy w' v.ownBlock := by
  obtain ⟨I⟩ := infoP
  obtain ⟨A, c, rfl, hc, hml, _⟩ := hO.rd.out
  have hO' := hid_mk hO
  have hv' := hid_mk hv
  clear hO hv
  go_enter Try.func41, Try.ntmps41
  go_wp2_with (at_builtin; refine wpList_append I undP rfl _ _ rfl base _ hO'.out rfl (Rd.lit hv'.out) rfl (by simp; omega) hb ?_; (intro v' w1 hown hg hat))
  all_goals go_ret
  all_goals exact ⟨v', rfl, hown, by cases A <;> exact hg⟩

set_option maxRecDepth 100000 in
set_option maxHeartbeats 400000 in
theorem insertMid (g cap : Nat) (cur : Array Value) (xs : List Pane) (i base vb : Nat) (p : Pane) (w : World) (hi : i < xs.length) (hO : Own encP 32 w base (.slice (some ⟨g, 0, none⟩) xs.length cap) xs) (hb : base ≤ w.heap.size) (hlen : xs.length < 1000000) (hv : Blk w vb p.cells.toArray 32)
    (hroom : xs.length < cap) (hcm : cap ≤ maxLen) (hvg : vb ≠ g) :
    Calls Try.prog 41 #[.slice (some ⟨g, 0, none⟩) xs.length cap, .int .i64 i, .slice (some ⟨vb, 0, none⟩) 1 1] w fun e w' => ∃ v', e = .returned v' ∧ Own encP 32 w' base v' (xs.take i ++ p :: xs.drop i) ∧ w.grownBy w' (some g) := by
  obtain ⟨I⟩ := infoP
  unfold maxLen at hcm
  have hO' := hid_mk hO
  have hv' := hid_mk hv
  clear hO hv
  have hn : ((i : Int) == (xs.length : Int)) = false := by simp; omega
  go_enter Try.func41, Try.ntmps41
  obtain ⟨g', cap', cur, hvv, hbg, hh, h1, h2, h3, h4⟩ := hO'.out.row (by omega)
  simp only [Value.slice.injEq, Option.some.injEq, Addr.mk.injEq, and_true, true_and] at hvv
  obtain ⟨rfl, rfl⟩ := hvv
  have hov : ∀ o lb cb, (callFunc 52 #[.slice (some ⟨vb, 0, none⟩) 1 1, .slice (some ⟨g, o, none⟩) lb cb]).run Try.prog w = .ok (.value (.bool false)) w := fun o lb cb => by
    obtain ⟨hvc, hvf⟩ := blk_facts hv'.out
    have hsa : w.shape? vb = some (32, 7) := by unfold World.shape?; rw [hv'.out.out]; rfl
    have hsb : w.shape? g = some (32, cur.size) := by unfold World.shape?; rw [hh]
    rw [run_callFunc_extern Try.func52 (by kernel_rfl) (by kernel_rfl) (by kernel_rfl) (e := Extern.SlicesOverlaps.overlaps #[26, 26] #[4]) (by kernel_rfl),
      Lib.run_overlaps_apart w 26 4 32 undP 7 Try.sizeOf32 ⟨vb, 0, none⟩ ⟨g, o, none⟩ 1 1 lb cb hvg _ _ _ _ hsa hsb (by rw [h3]; simp [encP]; omega) (hvf 0) (hvf 7)]
    rfl
  have hh' := hid_mk hh
  clear hh h1 h2
  have h3' := hid_mk h3
  have h4' := hid_mk h4
  clear h3 h4
  go_wp2
  refine wp_region_head 8 (by kernel_rfl) (by kernel_rfl) (fun W => ∃ n, W = World.drewN (w) n) ⟨1, rfl⟩ ?_ (by decide)
  simp only [List.take_succ_cons, List.take_zero, List.drop_succ_cons, List.drop_zero]
  repeat (go_big_quiet_step ((fail)))
  refine wpQuiet_nil ?_
  rintro W ⟨nq, rfl⟩
  have hsz := h3'.out
  have hR : RdAt encP w (some ⟨g, i * 7, none⟩) ((xs.drop i).take (xs.length - i)) := by
    have h := (hO'.out.rd.at_).cut i (xs.length - i)
    rw [Nat.zero_add] at h
    exact h
  have hdl : ((xs.drop i).take (xs.length - i)).length = xs.length - i := by simp
  refine wpList_copyK I undP rfl _ _ rfl g ((i + 1) * 7) cur _ hh'.out _ _ rfl _ _ _ rfl ((xs.drop i).take (xs.length - i)) ?_ (hR.drewN nq) (.inl (by simp)) ?_ ?_
  · rw [hdl]; omega
  · rw [hdl, hsz]; simp [encP]; omega
  obtain ⟨C1, hC1⟩ : ∃ C1, C1 = (cur.toList.take ((i + 1) * 7) ++ encP.flat ((xs.drop i).take (xs.length - i)) ++ cur.toList.drop ((i + 1) * 7 + ((xs.drop i).take (xs.length - i)).length * encP.k)) := ⟨_, rfl⟩
  rw [← hC1]
  have HC1 := hid_mk hC1
  clear hC1 hR hdl hsz
  obtain ⟨W1, hW1⟩ : ∃ W1, W1 = (w.drewN nq).setRow g C1.toArray := ⟨_, rfl⟩
  rw [← hW1]
  have g1 : Hid (W1.heap[g]? = some (.cells C1.toArray 32 (0, 0))) := hid_mk (by rw [hW1]; exact setRow_heap _ _ _ _ _ _ hh'.out)
  have o1 : Hid (∀ b, b ≠ g → W1.heap[b]? = w.heap[b]?) := hid_mk (fun b hb => by rw [hW1]; exact setRow_other _ _ _ _ hb)
  have z1 : w.heap.size ≤ W1.heap.size := by rw [hW1]; simp [World.setRow]
  have t1 : Hid (W1.os = w.os ∧ W1.tape = w.tape ∧ W1.output = w.output) := hid_mk (by rw [hW1]; exact ⟨rfl, rfl, rfl⟩)
  clear hW1
  go_wp2_with fail
  refine NoPanic.normal ?_
  have hvl : vb < w.heap.size := hv'.out.lt
  have hR2 : RdAt encP W1 (some ⟨vb, 0, none⟩) [p] := (Rd.lit hv'.out).at_.keep z1 (o1.out vb hvg)
  have hC1l : C1.length = cap * 7 := by
    rw [HC1.out]; simp [Enc.flat_length, h3'.out, encP]; omega
  have hcp := run_copyK (P := Try.prog) (w := W1) I undP 3 g (i * 7) (xs.length + 1 - i) (cap - i) C1.toArray 32 g1.out (some ⟨vb, 0, none⟩) 1 1 [p] (by simp; omega) hR2 (.inl (by simp)) (by simp [hC1l, encP]; omega)
  have hfp : encP.flat [p] = p.cells := by rw [Enc.flat_one]; rfl
  rw [hfp] at hcp
  obtain ⟨W2, hcp2, g2, o2, z2, t2⟩ : ∃ W2, (Builtin.copy_ #[26, 26] 3 #[.slice (some ⟨g, i * 7, none⟩) (xs.length + 1 - i) (cap - i), .slice (some ⟨vb, 0, none⟩) 1 1]).run Try.prog W1 = .ok (.int .i64 1) W2 ∧
      Hid (W2.heap[g]? = some (.cells (C1.take (i * 7) ++ p.cells ++ C1.drop (i * 7 + 7)).toArray 32 (0, 0))) ∧ Hid (∀ b, b ≠ g → W2.heap[b]? = w.heap[b]?) ∧ w.heap.size ≤ W2.heap.size ∧ Hid (W2.os = w.os ∧ W2.tape = w.tape ∧ W2.output = w.output) :=
    ⟨_, hcp, hid_mk (setRow_heap _ _ _ _ _ _ g1.out), hid_mk (fun b hb => (setRow_other _ _ _ _ hb).trans (o1.out b hb)), by simpa [World.setRow] using z1, t1⟩
  clear hcp
  go_wp2_with fail
  go_ret
  have hl1 : (xs.take i ++ p :: xs.drop i).length = xs.length + 1 := by simp; omega
  have hDl : (encP.flat ((xs.drop i).take (xs.length - i))).length = (xs.length - i) * 7 := by rw [Enc.flat_length]; simp [encP]
  have hPl : (encP.flat (xs.take i)).length = i * 7 := by rw [Enc.flat_length]; simp [encP]; omega
  have hdd : (xs.drop i).take (xs.length - i) = xs.drop i := List.take_of_length_le (by simp)
  refine ⟨_, rfl, ⟨?_, .inr ⟨g, cap, _, by rw [hl1]; rfl, hbg, g2.out, by rw [hl1]; omega, by simp [maxLen]; omega, ?_, ?_⟩⟩, ?_⟩
  · rw [Enc.flat_length]
  · simp [hC1l, encP, Pane.cells]; omega
  · have hins := row_insert cur.toList (encP.flat (xs.take i)) (encP.flat (xs.drop i)) p.cells (by
      rw [← Enc.flat_append, List.take_append_drop, ← h4'.out]
      congr 1
      rw [hPl, Enc.flat_length]; simp [encP]; omega) (by
      rw [hPl, Enc.flat_length]; simp [encP, Pane.cells, h3'.out]; omega)
    rw [hdd] at hDl HC1
    have hcl : p.cells.length = 7 := rfl
    rw [hPl, hDl, hcl] at hins
    have e2 : encP.flat (xs.take i ++ p :: xs.drop i) = encP.flat (xs.take i) ++ p.cells ++ encP.flat (xs.drop i) := by
      rw [Enc.flat_append, Enc.flat_cons, List.append_assoc]; rfl
    have e3 : (xs.take i ++ p :: xs.drop i).length * encP.k = i * 7 + 7 + (xs.length - i) * 7 := by rw [hl1]; simp [encP]; omega
    have e4 : (i + 1) * 7 = i * 7 + 7 := by omega
    have e6 : (xs.drop i).length * encP.k = (xs.length - i) * 7 := by simp [encP]
    rw [e2, e3, ← hins, HC1.out, e4, e6]
  · obtain ⟨a1, a2, a3⟩ := t2.out
    exact ⟨a1, a2, a3, z2, fun k hk hne => o2.out k (by rintro rfl; exact hne rfl)⟩

set_option maxRecDepth 100000 in
set_option maxHeartbeats 400000 in
theorem insertGrow (g : Nat) (xs : List Pane) (i base vb : Nat) (p : Pane) (w : World) (hi : i < xs.length) (hO : Own encP 32 w base (.slice (some ⟨g, 0, none⟩) xs.length xs.length) xs) (hb : base ≤ w.heap.size) (hlen : xs.length < 1000000) (hv : Blk w vb p.cells.toArray 32) :
    Calls Try.prog 41 #[.slice (some ⟨g, 0, none⟩) xs.length xs.length, .int .i64 i, .slice (some ⟨vb, 0, none⟩) 1 1] w fun e w' => ∃ v', e = .returned v' ∧ Own encP 32 w' base v' (xs.take i ++ p :: xs.drop i) ∧ w.grownBy w' (some g) := by
  obtain ⟨I⟩ := infoP
  have hO' := hid_mk hO
  have hv' := hid_mk hv
  clear hO hv
  have hn : ((i : Int) == (xs.length : Int)) = false := by simp; omega
  have hR : RdAt encP w (some ⟨g, 0, none⟩) xs := hO'.out.rd.at_
  have hold : (Builtin.firstCells I.i.size i (.slice (some ⟨g, 0, none⟩) i xs.length)).run Try.prog w.drew = .ok (encP.flat (xs.take i)).toArray w.drew := by
    rw [I.hsize]
    exact run_firstCells_some w.drew encP.k i ⟨g, 0, none⟩ i xs.length (encP.flat (xs.take i)) (by rw [Enc.flat_length, List.length_take, Nat.min_eq_left (by omega)]) (fun j u hu => by
      obtain ⟨b', off', hA, _, hc⟩ := hR.out (by omega)
      simp only [Option.some.injEq, Addr.mk.injEq, and_true] at hA
      obtain ⟨rfl, rfl⟩ := hA
      rw [Enc.flat_take, List.getElem?_take] at hu
      split at hu
      · have := hc j u hu
        rw [show (⟨g, 0, none⟩ : Addr).add j = ⟨g, 0 + j, none⟩ from by unfold Addr.add; split <;> simp_all]
        exact this
      · cases hu)
  obtain ⟨W1, G, C0, hap, g1, hG1, hG2, hC0, hC1, b1⟩ : ∃ W1 G C0, (∀ ty, (Builtin.append_ #[26, 3] ty #[.slice (some ⟨g, 0, none⟩) i xs.length, .int .i64 ((xs.length : Int) + 1 - (i : Int))]).run Try.prog w = .ok (.slice (some ⟨w.heap.size, 0, none⟩) (xs.length + 1) G) W1) ∧
      Hid (W1.heap[w.heap.size]? = some (.cells (C0 : Array Value) 32 (0, 0))) ∧ xs.length + 1 ≤ G ∧ G ≤ 9223372036854775807 ∧ Hid (C0.size = G * 7) ∧ Hid (C0.toList.take (i * 7) = encP.flat (xs.take i)) ∧ Below w.heap.size w W1 := by
    have hb' := I.hb
    have hz := I.hzs
    have hzz : ∀ n, (Builtin.zeroCells I.z.cells n).size = n * 7 := fun n => by simp [Builtin.zeroCells, hz, encP]
    have hsm : (xs.length + 1) * I.bytes ≤ 140737488355328 := Nat.le_trans (Nat.mul_le_mul (show xs.length + 1 ≤ 1000000 by omega) hb') (by decide)
    have h := fun ty => Lib.run_append_grow_zeros w 26 3 ty 32 I.i I.z .i64 .i64 undP (by kernel_rfl) I.hi I.hz (some ⟨g, 0, none⟩) i xs.length _ hold (xs.length + 1 - i) (by omega) (by rw [I.hsize]; exact encP.kpos) (by omega) (by omega)
      (by rw [I.hby]; exact Nat.le_trans (Nat.mul_le_mul_right _ (by omega)) (Nat.le_trans hsm (by omega))) (by rw [I.hby, show i + (xs.length + 1 - i) = xs.length + 1 from by omega]; exact growslice_fits (by omega) hsm)
    rw [show i + (xs.length + 1 - i) = xs.length + 1 from by omega] at h
    rw [show ((xs.length : Int) + 1 - (i : Int)) = ((xs.length + 1 - i : Nat) : Int) from by omega]
    have hge := grownCap_ge w (xs.length + 1) xs.length 32
    have hle := grownCap_le_maxLen w (xs.length + 1) xs.length 32 (by unfold maxLen; omega)
    have hfl : (encP.flat (xs.take i)).length = i * 7 := by rw [Enc.flat_length]; simp [encP]; omega
    refine ⟨_, _, (encP.flat (xs.take i)).toArray ++ Builtin.zeroCells I.z.cells (xs.length + 1 - i) ++ Builtin.zeroCells I.z.cells (grownCap w (xs.length + 1) xs.length 32 - (xs.length + 1)), h, hid_mk ?_, hge, by unfold maxLen at hle; omega, hid_mk ?_, hid_mk ?_, (Below.refl _ _).drew.alloc (Nat.le_refl _) _⟩
    · show ((w.drew.alloc _).heap)[w.drew.heap.size]? = _
      rw [alloc_get, if_pos rfl]
    · simp [hfl, hzz]; omega
    · simp only [Array.toList_append]
      rw [List.append_assoc, List.take_append_of_le_length (by simp [hfl]), List.take_of_length_le (by simp [hfl])]
  clear hold
  have hN : vb ≠ w.heap.size := by have := hv'.out.lt; omega
  have hl1 : (xs.take i ++ p :: xs.drop i).length = xs.length + 1 := by simp; omega
  have hfp : encP.flat [p] = p.cells := by rw [Enc.flat_one]; rfl
  have hPl : (encP.flat (xs.take i)).length = i * 7 := by rw [Enc.flat_length]; simp [encP]; omega
  have hDl : (encP.flat (xs.drop i)).length = (xs.length - i) * 7 := by rw [Enc.flat_length]; simp [encP]
  have hcl : p.cells.length = 7 := rfl
  have hR2 : RdAt encP W1 (some ⟨vb, 0, none⟩) [p] := (Rd.lit (hv'.out.below b1)).at_
  have hcp := run_copyK (P := Try.prog) (w := W1) I undP 3 w.heap.size (i * 7) (xs.length + 1 - i) (G - i) C0 32 g1.out (some ⟨vb, 0, none⟩) 1 1 [p] (by simp; omega) hR2 (.inl (by simp)) (by simp [hC0.out, encP]; omega)
  rw [hfp] at hcp
  obtain ⟨W2, hcp2, g2, o2, z2, t2⟩ : ∃ W2, (Builtin.copy_ #[26, 26] 3 #[.slice (some ⟨w.heap.size, i * 7, none⟩) (xs.length + 1 - i) (G - i), .slice (some ⟨vb, 0, none⟩) 1 1]).run Try.prog W1 = .ok (.int .i64 1) W2 ∧
      Hid (W2.heap[w.heap.size]? = some (.cells (C0.toList.take (i * 7) ++ p.cells ++ C0.toList.drop (i * 7 + 7)).toArray 32 (0, 0))) ∧ Hid (∀ b, b < w.heap.size → W2.heap[b]? = w.heap[b]?) ∧ w.heap.size < W2.heap.size ∧ Hid (W2.os = w.os ∧ W2.tape = w.tape ∧ W2.output = w.output) :=
    ⟨_, hcp, hid_mk (setRow_heap _ _ _ _ _ _ g1.out), hid_mk (fun b hb => (setRow_other _ _ _ _ (by omega)).trans (b1.block b hb)), by simpa [World.setRow] using blk_lt g1.out, hid_mk ⟨b1.os, b1.tape, b1.output⟩⟩
  clear hcp
  have hR3 : RdAt encP W2 (some ⟨g, i * 7, none⟩) (xs.drop i) := by
    have h := hR.cut i (xs.length - i)
    rw [List.take_of_length_le (by simp), Nat.zero_add] at h
    refine RdAt.keep h (by omega) (o2.out g ?_)
    exact hO'.out.lt g rfl
  go_enter Try.func41, Try.ntmps41
  go_wp2_with (at_builtin; refine wpList_appendRun rfl _ _ _ rfl rfl rfl hap ?_)
  refine wp_region_head 8 (by kernel_rfl) (by kernel_rfl) (fun W => ∃ n, W = World.drewN (W2) n) ⟨1, rfl⟩ ?_ (by decide)
  simp only [List.take_succ_cons, List.take_zero, List.drop_succ_cons, List.drop_zero]
  repeat (go_big_quiet_step ((fail)))
  refine wpQuiet_nil ?_
  rintro W ⟨nq, rfl⟩
  have hcq := run_copyK (P := Try.prog) (w := W2.drewN nq) I undP 3 w.heap.size ((i + 1) * 7) (xs.length - i) (G - (i + 1)) _ 32 g2.out (some ⟨g, i * 7, none⟩) (xs.length - i) (xs.length - i) (xs.drop i) (by simp) (hR3.drewN nq) (.inl (by simp)) (by simp [hC0.out, encP, hcl]; omega)
  obtain ⟨W3, n3, hcq3, g3, o3, z3, t3⟩ : ∃ W3 n3, (Builtin.copy_ #[26, 26] 3 #[.slice (some ⟨w.heap.size, (i + 1) * 7, none⟩) (xs.length - i) (G - (i + 1)), .slice (some ⟨g, i * 7, none⟩) (xs.length - i) (xs.length - i)]).run Try.prog (W2.drewN nq) = .ok (.int .i64 n3) W3 ∧
      Hid (W3.heap[w.heap.size]? = some (.cells ((C0.toList.take (i * 7) ++ p.cells ++ C0.toList.drop (i * 7 + 7)).take ((i + 1) * 7) ++ encP.flat (xs.drop i) ++ (C0.toList.take (i * 7) ++ p.cells ++ C0.toList.drop (i * 7 + 7)).drop ((i + 1) * 7 + (xs.drop i).length * 7)).toArray 32 (0, 0))) ∧ Hid (∀ b, b < w.heap.size → W3.heap[b]? = w.heap[b]?) ∧ w.heap.size < W3.heap.size ∧ Hid (W3.os = w.os ∧ W3.tape = w.tape ∧ W3.output = w.output) :=
    ⟨_, _, hcq, hid_mk (setRow_heap _ _ _ _ _ _ g2.out), hid_mk (fun b hb => (setRow_other _ _ _ _ (by omega)).trans (o2.out b hb)), by simpa [World.setRow] using z2, t2⟩
  clear hcq
  go_wp2_with fail
  refine NoPanic.normal ?_
  go_wp2_with fail
  go_ret
  refine ⟨_, rfl, ⟨?_, .inr ⟨w.heap.size, G, _, by rw [hl1]; rfl, hb, g3.out, by rw [hl1]; omega, by simp [maxLen]; omega, ?_, ?_⟩⟩, ?_⟩
  · rw [Enc.flat_length]
  · have hk7 : encP.k = 7 := rfl
    simp [hC0.out, hDl, hk7, hcl]; omega
  · have e2 : encP.flat (xs.take i ++ p :: xs.drop i) = encP.flat (xs.take i) ++ p.cells ++ encP.flat (xs.drop i) := by
      rw [Enc.flat_append, Enc.flat_cons, List.append_assoc]; rfl
    have e3 : (xs.take i ++ p :: xs.drop i).length * encP.k = i * 7 + 7 + (xs.length - i) * 7 := by rw [hl1]; simp [encP]; omega
    rw [e2, e3, hC1.out]
    have e5 : (encP.flat (xs.take i) ++ p.cells ++ C0.toList.drop (i * 7 + 7)).take ((i + 1) * 7) = encP.flat (xs.take i) ++ p.cells := by
      rw [List.take_append_of_le_length (by simp [hPl, hcl]; omega), List.take_of_length_le (by simp [hPl, hcl]; omega)]
    rw [e5]
    simp only []
    rw [List.take_append_of_le_length (by rw [List.length_append, List.length_append, hPl, hcl, hDl]; omega), List.take_of_length_le (by rw [List.length_append, List.length_append, hPl, hcl, hDl]; omega)]
  · obtain ⟨a1, a2, a3⟩ := t3.out
    exact ⟨a1, a2, a3, by omega, fun k hk hne => o3.out k hk⟩

/-- slices.Insert of one pane, at place i -/
theorem insertP (v : Value) (xs : List Pane) (i base vb : Nat) (p : Pane) (w : World) (hi : i ≤ xs.length) (hO : Own encP 32 w base v xs) (hb : base ≤ w.heap.size) (hlen : xs.length < 1000000) (hv : Blk w vb p.cells.toArray 32) (hne : v.ownBlock ≠ some vb) :
    Calls Try.prog 41 #[v, .int .i64 i, .slice (some ⟨vb, 0, none⟩) 1 1] w fun e w' => ∃ v', e = .returned v' ∧ Own encP 32 w' base v' (xs.take i ++ p :: xs.drop i) ∧ w.grownBy w' v.ownBlock := by
  by_cases hin : i = xs.length
  · subst hin
    have h := insertEnd v xs base vb p w hO hb hlen hv
    rw [List.take_length, List.drop_length]
    exact h
  · obtain ⟨g, cap, cur, rfl, hbg, hh, h1, h2, h3, h4⟩ := hO.row (by omega)
    by_cases hr : xs.length < cap
    · exact insertMid g cap cur xs i base vb p w (by omega) hO hb hlen hv hr h2 (by rintro rfl; exact hne rfl)
    · obtain rfl : cap = xs.length := by omega
      exact insertGrow g xs i base vb p w (by omega) hO hb hlen hv
end Go.Proofs.Ytkmjehodmfnihaa
