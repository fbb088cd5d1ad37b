/-
  PanePlays: the walk, whole.
-/
import Derived.Test.YtkmjehodmfnihaaPlay7B
import Derived.Test.YtkmjehodmfnihaaPlay7C
import Derived.Test.YtkmjehodmfnihaaPlay7D
set_option linter.unusedSimpArgs false
set_option linter.unusedVariables false
namespace Go.Proofs.Ytkmjehodmfnihaa
open Go.RowKit

set_option maxRecDepth 100000 in
set_option maxHeartbeats 4000000 in
theorem panePlays (v : Value) (ds : List Deed) (key : ByteArray) (w : World) (hR : Rd encD w v ds) (hfit : ∀ d ∈ ds, fit d.what = true) (hkl : key.size ≤ maxLen) :
    Calls Try.prog 4 #[v, .string key] w fun e w' => e = .returned (.bool true) ∧ Below w.heap.size w w' := by
  obtain ⟨A, c, rfl, _, hml, _⟩ := hR.out
  have hR' := hid_mk hR
  have hfit' := hid_mk hfit
  clear hR hfit
  unfold maxLen at hkl hml
  go_enter Try.func4, Try.ntmps4
  go_wp2_with fail
  refine (law07up _).mono ?_
  rintro e w1 ⟨rfl, hb1⟩
  have hZ1 := hid_mk hb1
  clear hb1
  by_cases hbig : ds.length ≤ 60
  · by_cases hbk : key.size ≤ 100
    · go_wp2_with fail
      refine wp_loopF (fun u => (⟨#[.slice A ds.length c, .string key, u 2, u 3, u 4, .bool true, u 6, u 7, u 8, u 9, u 10, u 11, u 12, u 13, u 14, u 15, u 16, u 17, u 18, u 19, u 20, u 21, u 22, u 23, u 24, u 25, u 26, u 27, u 28, u 29, u 30, u 31, u 32, u 33, u 34, u 35, u 36, u 37, u 38, u 39, u 40, u 41, u 42, u 43, u 44, u 45, u 46, u 47, u 48, u 49, u 50, u 51, u 52, u 53, u 54, u 55, u 56, u 57, u 58, u 59, u 60, u 61, u 62, u 63, u 64, u 65, u 66, u 67, u 68, u 69, u 70, u 71, u 72, u 73, u 74, u 75, u 76, u 77, u 78, u 79, u 80, u 81, u 82, u 83, u 84, u 85, u 86, u 87, u 88, u 89, u 90, u 91, u 92, u 93, u 94, u 95, u 96, u 97, u 98, u 99, u 100, u 101, u 102, u 103, u 104, u 105, u 106, u 107, u 108, u 109, u 110, u 111, u 112, u 113, u 114, u 115, u 116, u 117, u 118, u 119, u 120, u 121, u 122, u 123, u 124, u 125, u 126, u 127, u 128, u 129, u 130, u 131, u 132, u 133, u 134, u 135, u 136, u 137, u 138, u 139, u 140, u 141, u 142, u 143, u 144, u 145, u 146, u 147, u 148, u 149, u 150, u 151, u 152, u 153, u 154, u 155, u 156, u 157, u 158, u 159, u 160, u 161, u 162, u 163, u 164, u 165, u 166, u 167, u 168, u 169, u 170, u 171, u 172, u 173, u 174, u 175, u 176, u 177, u 178, u 179, u 180, u 181, u 182, u 183, u 184, u 185, u 186, u 187, u 188, u 189, u 190, u 191, u 192, u 193, u 194, u 195, u 196, u 197, u 198, u 199, u 200, u 201, u 202, u 203, u 204, u 205, u 206, u 207, u 208, u 209, u 210, u 211, u 212, u 213, u 214, u 215, u 216, u 217, u 218, u 219, u 220, u 221, u 222, u 223, u 224, u 225, u 226, u 227, u 228, u 229, u 230, u 231, u 232, u 233, u 234, u 235, u 236, u 237, u 238, u 239, u 240, u 241, u 242, u 243, u 244, u 245, u 246, u 247, u 248, u 249, u 250, u 251, u 252, u 253, u 254, u 255, u 256, u 257, u 258, u 259, u 260, u 261, u 262, u 263, u 264, u 265, u 266, u 267, u 268, u 269, u 270, u 271, u 272, u 273, u 274, u 275, u 276, u 277, u 278, u 279, u 280, u 281, u 282, u 283, u 284, u 285, u 286, u 287, u 288, u 289, u 290], []⟩ : Act)) (fun u wr => ∃ (i : Nat) (m : List Pane), i ≤ ds.length ∧ u 7 = .int .i64 i ∧ Hid (Rd encP wr (u 6) m) ∧ Hid (RisP m) ∧ Hid (keysP m key) ∧ Hid (m.length ≤ i) ∧ Hid (Below w.heap.size w wr)) (fun u _ => ds.length - (intOf (u 7)).toNat) rfl ?_ ?_
      · exact ⟨0, [], Nat.zero_le _, rfl, hid_mk (Rd.nil _), hid_mk List.Pairwise.nil, hid_mk (fun x hx => by cases hx), hid_mk (Nat.le_refl _), hZ1⟩
      · intro u wr mm hrel hmm
        obtain ⟨i, m, hi, h7, hRm, hs, hks, hmi, hZ⟩ := hrel
        have hmm' : ds.length - i = mm := by rw [← hmm, h7]; simp [intOf]
        by_cases hlt : i < ds.length
        · have hround : ∀ Q : Exit → Act → World → Prop, (∀ a W, getu a 4 = .bool true → a.defers = [] → Below w.heap.size w W → Q .ret a W) → play7Body.wp Try.prog (Exit.then (InvF (fun u => (⟨#[.slice A ds.length c, .string key, u 2, u 3, u 4, .bool true, u 6, u 7, u 8, u 9, u 10, u 11, u 12, u 13, u 14, u 15, u 16, u 17, u 18, u 19, u 20, u 21, u 22, u 23, u 24, u 25, u 26, u 27, u 28, u 29, u 30, u 31, u 32, u 33, u 34, u 35, u 36, u 37, u 38, u 39, u 40, u 41, u 42, u 43, u 44, u 45, u 46, u 47, u 48, u 49, u 50, u 51, u 52, u 53, u 54, u 55, u 56, u 57, u 58, u 59, u 60, u 61, u 62, u 63, u 64, u 65, u 66, u 67, u 68, u 69, u 70, u 71, u 72, u 73, u 74, u 75, u 76, u 77, u 78, u 79, u 80, u 81, u 82, u 83, u 84, u 85, u 86, u 87, u 88, u 89, u 90, u 91, u 92, u 93, u 94, u 95, u 96, u 97, u 98, u 99, u 100, u 101, u 102, u 103, u 104, u 105, u 106, u 107, u 108, u 109, u 110, u 111, u 112, u 113, u 114, u 115, u 116, u 117, u 118, u 119, u 120, u 121, u 122, u 123, u 124, u 125, u 126, u 127, u 128, u 129, u 130, u 131, u 132, u 133, u 134, u 135, u 136, u 137, u 138, u 139, u 140, u 141, u 142, u 143, u 144, u 145, u 146, u 147, u 148, u 149, u 150, u 151, u 152, u 153, u 154, u 155, u 156, u 157, u 158, u 159, u 160, u 161, u 162, u 163, u 164, u 165, u 166, u 167, u 168, u 169, u 170, u 171, u 172, u 173, u 174, u 175, u 176, u 177, u 178, u 179, u 180, u 181, u 182, u 183, u 184, u 185, u 186, u 187, u 188, u 189, u 190, u 191, u 192, u 193, u 194, u 195, u 196, u 197, u 198, u 199, u 200, u 201, u 202, u 203, u 204, u 205, u 206, u 207, u 208, u 209, u 210, u 211, u 212, u 213, u 214, u 215, u 216, u 217, u 218, u 219, u 220, u 221, u 222, u 223, u 224, u 225, u 226, u 227, u 228, u 229, u 230, u 231, u 232, u 233, u 234, u 235, u 236, u 237, u 238, u 239, u 240, u 241, u 242, u 243, u 244, u 245, u 246, u 247, u 248, u 249, u 250, u 251, u 252, u 253, u 254, u 255, u 256, u 257, u 258, u 259, u 260, u 261, u 262, u 263, u 264, u 265, u 266, u 267, u 268, u 269, u 270, u 271, u 272, u 273, u 274, u 275, u 276, u 277, u 278, u 279, u 280, u 281, u 282, u 283, u 284, u 285, u 286, u 287, u 288, u 289, u 290], []⟩ : Act)) (fun u wr => ∃ (i : Nat) (m : List Pane), i ≤ ds.length ∧ u 7 = .int .i64 i ∧ Hid (Rd encP wr (u 6) m) ∧ Hid (RisP m) ∧ Hid (keysP m key) ∧ Hid (m.length ≤ i) ∧ Hid (Below w.heap.size w wr)) (fun u _ => ds.length - (intOf (u 7)).toNat) mm) Q) ((fun u => (⟨#[.slice A ds.length c, .string key, u 2, u 3, u 4, .bool true, u 6, u 7, u 8, u 9, u 10, u 11, u 12, u 13, u 14, u 15, u 16, u 17, u 18, u 19, u 20, u 21, u 22, u 23, u 24, u 25, u 26, u 27, u 28, u 29, u 30, u 31, u 32, u 33, u 34, u 35, u 36, u 37, u 38, u 39, u 40, u 41, u 42, u 43, u 44, u 45, u 46, u 47, u 48, u 49, u 50, u 51, u 52, u 53, u 54, u 55, u 56, u 57, u 58, u 59, u 60, u 61, u 62, u 63, u 64, u 65, u 66, u 67, u 68, u 69, u 70, u 71, u 72, u 73, u 74, u 75, u 76, u 77, u 78, u 79, u 80, u 81, u 82, u 83, u 84, u 85, u 86, u 87, u 88, u 89, u 90, u 91, u 92, u 93, u 94, u 95, u 96, u 97, u 98, u 99, u 100, u 101, u 102, u 103, u 104, u 105, u 106, u 107, u 108, u 109, u 110, u 111, u 112, u 113, u 114, u 115, u 116, u 117, u 118, u 119, u 120, u 121, u 122, u 123, u 124, u 125, u 126, u 127, u 128, u 129, u 130, u 131, u 132, u 133, u 134, u 135, u 136, u 137, u 138, u 139, u 140, u 141, u 142, u 143, u 144, u 145, u 146, u 147, u 148, u 149, u 150, u 151, u 152, u 153, u 154, u 155, u 156, u 157, u 158, u 159, u 160, u 161, u 162, u 163, u 164, u 165, u 166, u 167, u 168, u 169, u 170, u 171, u 172, u 173, u 174, u 175, u 176, u 177, u 178, u 179, u 180, u 181, u 182, u 183, u 184, u 185, u 186, u 187, u 188, u 189, u 190, u 191, u 192, u 193, u 194, u 195, u 196, u 197, u 198, u 199, u 200, u 201, u 202, u 203, u 204, u 205, u 206, u 207, u 208, u 209, u 210, u 211, u 212, u 213, u 214, u 215, u 216, u 217, u 218, u 219, u 220, u 221, u 222, u 223, u 224, u 225, u 226, u 227, u 228, u 229, u 230, u 231, u 232, u 233, u 234, u 235, u 236, u 237, u 238, u 239, u 240, u 241, u 242, u 243, u 244, u 245, u 246, u 247, u 248, u 249, u 250, u 251, u 252, u 253, u 254, u 255, u 256, u 257, u 258, u 259, u 260, u 261, u 262, u 263, u 264, u 265, u 266, u 267, u 268, u 269, u 270, u 271, u 272, u 273, u 274, u 275, u 276, u 277, u 278, u 279, u 280, u 281, u 282, u 283, u 284, u 285, u 286, u 287, u 288, u 289, u 290], []⟩ : Act)) u) wr := by
            intro Q hQ
            rcases pickI_range ds[i].what with hpk | hpk | hpk
            · exact round7_0 ds key w A c Q u wr mm i m hR'.out hfit'.out hbig hQ hlt h7 hRm.out hs.out hks.out hmi.out hZ.out hmm' hpk
            · exact round7_1 ds key w A c Q u wr mm i m hR'.out hfit'.out hbig hQ hlt h7 hRm.out hs.out hks.out hmi.out hZ.out hmm' hpk
            · exact round7_2 ds key w A c Q u wr mm i m hR'.out hfit'.out hbig hQ hlt h7 hRm.out hs.out hks.out hmi.out hZ.out hmm' hpk
          refine hround _ ?_
          intro a W h4 hd hb
          have h4' : a.tmps.getD 4 undef = .bool true := by
            rw [← h4]
            obtain ⟨⟨l⟩, d⟩ := a
            by_cases h : 4 < l.length <;> simp [getu, Array.getD, List.getD, h]
          simp only [Exit.inBlock, Exit.then]
          refine bodyPost_ret (results_tmp rfl _ _ _) hd ⟨by rw [h4'], hb⟩
        · dsimp only
          rw [h7]
          clear h7 hmm
          go_wp2_with fail
          go_ret
          exact ⟨rfl, hZ.out⟩
    · go_wp2_with fail
      go_ret
      exact ⟨rfl, hZ1.out⟩
  · go_wp2_with fail
    go_ret
    exact ⟨rfl, hZ1.out⟩
end Go.Proofs.Ytkmjehodmfnihaa
