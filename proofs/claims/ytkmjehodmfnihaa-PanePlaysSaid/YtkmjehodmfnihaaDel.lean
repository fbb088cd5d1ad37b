/-
  slices.Delete of one pane; append and clear in place.
-/
import Derived.Test.YtkmjehodmfnihaaPut
set_option linter.unusedSimpArgs false
set_option linter.unusedVariables false
namespace Go.Proofs.Ytkmjehodmfnihaa
open Go.RowKit
section
variable {α : Type} {E : Enc α} {w : World}
theorem run_appendRow {P : Program} {T t : TypeId} (I : Info P E T) (ht : P.underlying t = some (.slice T)) (ty : TypeId) (g sLen sCap : Nat) (cur : Array Value) (T' : TypeId) (hg : w.heap[g]? = some (.cells cur T' (0, 0))) (ad : Addr) (c : Nat) (zs : List α)
    (hr : RdAt E w (some ad) zs) (hroom : sLen + zs.length ≤ sCap) (hfit : sLen * E.k + zs.length * E.k ≤ cur.size) :
    (Builtin.append_ #[t, t] ty #[.slice (some ⟨g, 0, none⟩) sLen sCap, .slice (some ad) zs.length c]).run P w =
      .ok (.slice (some ⟨g, 0, none⟩) (sLen + zs.length) sCap) (w.setRow g (cur.toList.take (sLen * E.k) ++ E.flat zs ++ cur.toList.drop (sLen * E.k + zs.length * E.k)).toArray) := by
  have hl : (loadCells ad (zs.length * E.k)).run P w = .ok (E.flat zs).toArray w := by
    have h := run_loadCells_list (P := P) w ad (E.flat zs) (fun j u hu => by
      have hn : 0 < zs.length := by
        cases zs with
        | nil => simp [Enc.flat] at hu
        | cons y ys => simp
      obtain ⟨b, off, hA, _, hc⟩ := hr.out hn
      injection hA with hA
      subst hA
      have := hc j u hu
      rwa [show (⟨b, off, none⟩ : Addr).add j = ⟨b, off + j, none⟩ from by unfold Addr.add; split <;> simp_all])
    rwa [E.flat_length] at h
  have hst := run_storeCells_at P g (sLen * E.k) T' (E.flat zs) 0 cur w hg (by rw [E.flat_length]; simpa using hfit) (E.flat_one' _)
  rw [E.flat_length] at hst
  simp only [Nat.add_zero] at hst
  have h0 : (⟨g, 0, none⟩ : Addr).add (sLen * E.k) = ⟨g, sLen * E.k, none⟩ := by simp [Addr.add]; exact fun h => h.symm
  simp [Builtin.append_, run_underlying ht, Builtin.lenOf, Builtin.firstCells, sizeOf, typeInfo, I.hi, I.hsize, hroom, hl, h0, hst]
theorem run_clearRow {P : Program} {T t : TypeId} (I : Info P E T) (h1 : ∀ u ∈ I.z.cells, u.oneCell' = true) (ht : P.underlying t = some (.slice T)) (ty : TypeId) (g o n c : Nat) (hn : 0 < n) (cur : Array Value) (T' : TypeId) (hg : w.heap[g]? = some (.cells cur T' (0, 0)))
    (hfit : o + n * E.k ≤ cur.size) :
    ∃ Z : List Value, Z.length = n * E.k ∧ (Builtin.clear_ #[t] ty #[.slice (some ⟨g, o, none⟩) n c]).run P w = .ok (.tuple #[]) (w.setRow g (cur.toList.take o ++ Z ++ cur.toList.drop (o + n * E.k)).toArray) := by
  refine ⟨(Builtin.zeroCells I.z.cells n).toList, by simp [Builtin.zeroCells, I.hzs], ?_⟩
  have hst := run_storeCells_at P g o T' (Builtin.zeroCells I.z.cells n).toList 0 cur w hg (by simpa [Builtin.zeroCells, I.hzs] using hfit) (by
    intro u hu
    simp [Builtin.zeroCells] at hu
    obtain ⟨i, hi, rfl⟩ := hu
    have hk := E.kpos
    have hlt : i % I.z.cells.size < I.z.cells.size := Nat.mod_lt _ (by rw [I.hzs]; exact hk)
    have he : I.z.cells[i % I.z.cells.size]! = I.z.cells[i % I.z.cells.size]'hlt := by simp [hlt]
    rw [he]
    exact h1 _ (Array.getElem_mem hlt))
  have hzl : (Builtin.zeroCells I.z.cells n).toList.length = n * E.k := by simp [Builtin.zeroCells, I.hzs]
  rw [hzl] at hst
  simp only [Nat.add_zero] at hst
  obtain ⟨m, rfl⟩ : ∃ m, n = m + 1 := ⟨n - 1, by omega⟩
  simp [Builtin.clear_, run_underlying ht, zeroValue, typeInfo, I.hi, I.hz, hst]
end
/-- the zero value's cells are single ones -/
theorem info_one {P : Program} {α : Type} {E : Enc α} {T : TypeId} (h : (P.info? T).map (fun i => i.zero.map (fun z => z.cells.all fun u => u.oneCell')) = some (some true)) (I : Info P E T) : ∀ u ∈ I.z.cells, u.oneCell' = true := by
  rw [I.hi] at h
  simp only [Option.map_some, I.hz, Option.some.injEq] at h
  intro u hu
  exact Array.all_eq_true_iff_forall_mem.1 h u hu
theorem onePane : (Try.prog.info? 32).map (fun i => i.zero.map (fun z => z.cells.all fun u => u.oneCell')) = some (some true) := by kernel_rfl
theorem oneSpan : (Try.prog.info? 28).map (fun i => i.zero.map (fun z => z.cells.all fun u => u.oneCell')) = some (some true) := by kernel_rfl

set_option maxRecDepth 100000 in
set_option maxHeartbeats 400000 in
/-- slices.Delete of the pane at place i -/
theorem deleteP (v : Value) (xs : List Pane) (i base : Nat) (w : World) (hi : i < xs.length) (hO : Own encP 32 w base v xs) (hb : base ≤ w.heap.size) (hlen : xs.length < 1000000) :
    Calls Try.prog 33 #[v, .int .i64 i, .int .i64 (i + 1)] w fun e w' => ∃ v', e = .returned v' ∧ Own encP 32 w' base v' (xs.eraseIdx i) ∧ w.grownBy w' v.ownBlock := by
  obtain ⟨I⟩ := infoP
  obtain ⟨g, cap, cur, rfl, hbg, hh, h1, h2, h3, h4⟩ := hO.row (by omega)
  obtain ⟨m, hm⟩ : ∃ m, xs.length = m + 1 := ⟨xs.length - 1, by omega⟩
  have hR := hid_mk (hO.rd.at_)
  have hh' := hid_mk hh
  rw [hm] at hi hlen h1 h4 ⊢
  have h3' := hid_mk h3
  have h4' := hid_mk h4
  clear hO hh h3 h4
  have hne : ((i : Int) == (i : Int) + 1) = false := by simp; omega
  go_enter Try.func33, Try.ntmps33
  go_wp2
  refine wp_region_head 6 (by kernel_rfl) (by kernel_rfl) (fun W => ∃ n, W = World.drewN (w) n) ⟨1, rfl⟩ ?_ (by decide)
  simp only [List.take_succ_cons, List.take_zero, List.drop_succ_cons, List.drop_zero]
  repeat (go_big_quiet_step ((fail)))
  refine wpQuiet_nil ?_
  rintro W ⟨nq, rfl⟩
  have hl2 : (xs.drop (i + 1)).length = m - i := by simp [hm]
  have hR2 : RdAt encP (w.drewN nq) (some ⟨g, (i + 1) * 7, none⟩) (xs.drop (i + 1)) := by
    have h := (hR.out).cut (i + 1) (xs.length - (i + 1))
    rw [List.take_of_length_le (by simp), Nat.zero_add] at h
    exact h.drewN nq
  have hsz : cur.size = cap * 7 := h3'.out
  obtain ⟨ad, hif, hRa⟩ : ∃ ad : Addr, (if cap = i + 1 then some (⟨g, 0, none⟩ : Addr) else some ⟨g, (i + 1) * 7, none⟩) = some ad ∧ RdAt encP (w.drewN nq) (some ad) (xs.drop (i + 1)) := by
    by_cases hce : cap = i + 1
    · refine ⟨⟨g, 0, none⟩, by rw [if_pos hce], ⟨fun hn => ?_⟩⟩
      rw [hl2] at hn; omega
    · exact ⟨_, by rw [if_neg hce], hR2⟩
  simp only [hif]
  have hap0 := fun ty => run_appendRow (P := Try.prog) (w := w.drewN nq) I undP ty g i cap cur 32 hh'.out ad (cap - (i + 1)) (xs.drop (i + 1)) hRa (by omega) (by rw [hl2, hsz]; simp [encP]; omega)
  rw [hl2, show i + (m - i) = m by omega] at hap0
  obtain ⟨C1, hC1⟩ : ∃ C1, C1 = (cur.toList.take (i * encP.k) ++ encP.flat (xs.drop (i + 1)) ++ cur.toList.drop (i * encP.k + (m - i) * encP.k)) := ⟨_, rfl⟩
  rw [← hC1] at hap0
  have hC1l : C1.length = cap * 7 := by
    rw [hC1]; simp [Enc.flat_length, hsz, encP, hm]; omega
  have HC1 := hid_mk hC1
  clear hC1 hR2 hRa hif
  obtain ⟨W1, hW1⟩ : ∃ W1, W1 = (w.drewN nq).setRow g C1.toArray := ⟨_, rfl⟩
  have hap : ∀ ty, (Builtin.append_ #[26, 26] ty #[.slice (some ⟨g, 0, none⟩) i cap, .slice (some ad) (m - i) (cap - (i + 1))]).run Try.prog (w.drewN nq) = .ok (.slice (some ⟨g, 0, none⟩) m cap) W1 := fun ty => by rw [hW1]; exact hap0 ty
  have g1 : Hid (W1.heap[g]? = some (.cells C1.toArray 32 (0, 0))) := hid_mk (by rw [hW1]; exact setRow_heap _ _ _ _ _ _ hh'.out)
  have o1 : Hid (∀ b, b ≠ g → W1.heap[b]? = w.heap[b]?) := hid_mk (fun b hb => by rw [hW1]; exact setRow_other _ _ _ _ hb)
  have z1 : w.heap.size ≤ W1.heap.size := by rw [hW1]; simp [World.setRow]
  have t1 : Hid (W1.os = w.os ∧ W1.tape = w.tape ∧ W1.output = w.output) := hid_mk (by rw [hW1]; exact ⟨rfl, rfl, rfl⟩)
  clear hW1
  clear hap0
  refine wpList_appendRun rfl _ _ _ rfl rfl rfl hap ?_
  go_wp2_with fail
  refine NoPanic.normal ?_
  obtain ⟨Z, hZ, hcl0⟩ := run_clearRow (P := Try.prog) (w := W1) (T := 32) (t := 26) I (info_one onePane I) undP 0 g (m * 7) 1 (cap - m) (by omega) C1.toArray 32 g1.out (by simp [hC1l, encP]; omega)
  obtain ⟨W2, hcl, g2, o2, z2, t2⟩ : ∃ W2, (Builtin.clear_ #[26] 0 #[.slice (some ⟨g, m * 7, none⟩) 1 (cap - m)]).run Try.prog W1 = .ok (.tuple #[]) W2 ∧
      Hid (W2.heap[g]? = some (.cells (C1.take (m * 7) ++ Z ++ C1.drop (m * 7 + 1 * encP.k)).toArray 32 (0, 0))) ∧ Hid (∀ b, b ≠ g → W2.heap[b]? = w.heap[b]?) ∧ w.heap.size ≤ W2.heap.size ∧ Hid (W2.os = w.os ∧ W2.tape = w.tape ∧ W2.output = w.output) :=
    ⟨_, hcl0, hid_mk (setRow_heap _ _ _ _ _ _ g1.out), hid_mk (fun b hb => (setRow_other _ _ _ _ hb).trans (o1.out b hb)), by simpa [World.setRow] using z1, t1⟩
  clear hcl0
  have hcm : ¬ cap = m := by omega
  go_wp2
  go_ret
  have he : xs.eraseIdx i = xs.take i ++ xs.drop (i + 1) := List.eraseIdx_eq_take_drop_succ xs i
  have hxl : (xs.eraseIdx i).length = m := by rw [he]; simp [hm]; omega
  have hZ' : Z.length = 7 := by rw [hZ]; rfl
  refine ⟨_, rfl, ⟨?_, .inr ⟨g, cap, _, by rw [hxl]; rfl, hbg, g2.out, by rw [hxl]; omega, h2, ?_, ?_⟩⟩, ?_⟩
  · rw [Enc.flat_length]
  · simp only [List.size_toArray, List.length_append, List.length_take, List.length_drop, hC1l, hZ']; simp only [encP]; omega
  · have hk : encP.k = 7 := rfl
    have hct : cur.toList.take (i * 7) = encP.flat (xs.take i) := by
      rw [Enc.flat_take, ← h4'.out, List.take_take, hk, Nat.min_eq_left (by omega)]
    have hPl : (encP.flat (xs.take i)).length = i * 7 := by rw [Enc.flat_length]; simp [hk]; omega
    have hDl : (encP.flat (xs.drop (i + 1))).length = (m - i) * 7 := by rw [Enc.flat_length, hl2, hk]
    rw [hxl, he, Enc.flat_append, hk]
    simp only []
    rw [List.append_assoc, List.take_append_of_le_length (by rw [List.length_take]; omega), List.take_take, Nat.min_self, HC1.out, hk, hct,
      List.take_append_of_le_length (by rw [List.length_append, hPl, hDl]; omega), List.take_of_length_le (by rw [List.length_append, hPl, hDl]; omega)]
  · obtain ⟨a1, a2, a3⟩ := t2.out
    exact ⟨a1, a2, a3, z2, fun k hk hne => o2.out k (by rintro rfl; exact hne rfl)⟩
end Go.Proofs.Ytkmjehodmfnihaa
