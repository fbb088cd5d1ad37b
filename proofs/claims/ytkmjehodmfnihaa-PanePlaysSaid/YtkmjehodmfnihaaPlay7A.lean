/-
  PanePlays: the walk.
-/
import Derived.Test.YtkmjehodmfnihaaPlay7L
import Derived.Test.YtkmjehodmfnihaaLoop
set_option linter.unusedSimpArgs false
set_option linter.unusedVariables false
namespace Go.Proofs.Ytkmjehodmfnihaa
open Go.RowKit

structure Deed where
  what : Int
  s : Span
  v : Int
def Deed.cells (d : Deed) : List Value := [.int .i64 d.what, .int .i64 d.s.s, .int .i64 d.s.e, .int .i64 d.v]
def encD : Enc Deed := ⟨Deed.cells, 4, by decide, fun _ => rfl, fun x u hu => by simp [Deed.cells] at hu; rcases hu with rfl | rfl | rfl | rfl <;> rfl⟩
theorem Rd.deed {w : World} {A : Option Addr} {n c : Nat} {xs : List Deed} (h : Rd encD w (.slice A n c) xs) {j : Nat} (hj : j < xs.length) : ∃ b off, A = some ⟨b, off, none⟩ ∧ b < w.heap.size ∧
    w.cell? ⟨b, off + j * 4, none⟩ = some (.int .i64 xs[j].what) ∧ w.cell? ⟨b, off + j * 4 + 1, none⟩ = some (.int .i64 xs[j].s.s) ∧ w.cell? ⟨b, off + j * 4 + 2, none⟩ = some (.int .i64 xs[j].s.e) ∧ w.cell? ⟨b, off + j * 4 + 3, none⟩ = some (.int .i64 xs[j].v) := by
  obtain ⟨b, off, hA, hb, hc⟩ := h.elem hj
  exact ⟨b, off, hA, hb, hc 0 _ rfl, hc 1 _ rfl, hc 2 _ rfl, hc 3 _ rfl⟩
/-- .. whose address is known -/
theorem Rd.paneKn {w : World} {b off n c : Nat} {xs : List Pane} (h : Rd encP w (.slice (some ⟨b, off, none⟩) n c) xs) {j : Nat} (hj : j < xs.length) : b < w.heap.size ∧
    w.cell? ⟨b, off + j * 7, none⟩ = some (.string xs[j].key) ∧ w.cell? ⟨b, off + j * 7 + 1, none⟩ = some (.int .i64 xs[j].sp.s) ∧ w.cell? ⟨b, off + j * 7 + 2, none⟩ = some (.int .i64 xs[j].sp.e) ∧
    w.cell? ⟨b, off + j * 7 + 3, none⟩ = some (.int .i64 xs[j].ag.n) ∧ w.cell? ⟨b, off + j * 7 + 4, none⟩ = some (.int .i64 xs[j].ag.sum) ∧ w.cell? ⟨b, off + j * 7 + 5, none⟩ = some (.int .i64 xs[j].ag.lo) ∧ w.cell? ⟨b, off + j * 7 + 6, none⟩ = some (.int .i64 xs[j].ag.hi) := by
  obtain ⟨b', off', hA, hb, hc⟩ := h.pane hj
  simp only [Option.some.injEq, Addr.mk.injEq, and_true] at hA
  obtain ⟨rfl, rfl⟩ := hA
  exact ⟨hb, hc⟩
theorem pickI_range (c : Int) : pickI c = 0 ∨ pickI c = 1 ∨ pickI c = 2 := by
  unfold pickI; split <;> omega

/-- the code of the loop in that block -/
def findLoop (id : Nat) : Code → Option Code
  | .block i b => if i = id then (match b with | .loop c => some c | _ => none) else findLoop id b
  | .seq a b => match findLoop id a with | some c => some c | none => findLoop id b
  | .cond _ a b => match findLoop id a with | some c => some c | none => findLoop id b
  | .loop b => findLoop id b
  | .scope b => findLoop id b
  | .rangeFunc _ _ a b => match findLoop id a with | some c => some c | none => findLoop id b
  | _ => none
noncomputable def play7Body : Code := ((findLoop 0 ((Try.f4).body.getD .skip)).getD .skip)
/-- a round of the outer loop, by what the deed asks for -/
def Round7 (pk : Int) : Prop := ∀ (ds : List Deed) (key : ByteArray) (w : World) (A : Option Addr) (c : Nat) (Q : Exit → Act → World → Prop) (u : Nat → Value) (wr : World) (mm i : Nat) (m : List Pane) (hR : Rd encD w (.slice A ds.length c) ds) (hfd : ∀ d ∈ ds, fit d.what = true) (hbig : ds.length ≤ 60)
  (hQ : ∀ a W, getu a 4 = .bool true → a.defers = [] → Below w.heap.size w W → Q .ret a W)
  (hlt : i < ds.length) (h7 : u 7 = .int .i64 i) (hRm : Rd encP wr (u 6) m) (hs : RisP m) (hks : keysP m key) (hmi : m.length ≤ i) (hZ : Below w.heap.size w wr) (hmm' : ds.length - i = mm) (hpk0 : pickI ds[i].what = pk),
  play7Body.wp Try.prog (Exit.then (InvF (fun u => (⟨#[.slice A ds.length c, .string key, u 2, u 3, u 4, .bool true, u 6, u 7, u 8, u 9, u 10, u 11, u 12, u 13, u 14, u 15, u 16, u 17, u 18, u 19, u 20, u 21, u 22, u 23, u 24, u 25, u 26, u 27, u 28, u 29, u 30, u 31, u 32, u 33, u 34, u 35, u 36, u 37, u 38, u 39, u 40, u 41, u 42, u 43, u 44, u 45, u 46, u 47, u 48, u 49, u 50, u 51, u 52, u 53, u 54, u 55, u 56, u 57, u 58, u 59, u 60, u 61, u 62, u 63, u 64, u 65, u 66, u 67, u 68, u 69, u 70, u 71, u 72, u 73, u 74, u 75, u 76, u 77, u 78, u 79, u 80, u 81, u 82, u 83, u 84, u 85, u 86, u 87, u 88, u 89, u 90, u 91, u 92, u 93, u 94, u 95, u 96, u 97, u 98, u 99, u 100, u 101, u 102, u 103, u 104, u 105, u 106, u 107, u 108, u 109, u 110, u 111, u 112, u 113, u 114, u 115, u 116, u 117, u 118, u 119, u 120, u 121, u 122, u 123, u 124, u 125, u 126, u 127, u 128, u 129, u 130, u 131, u 132, u 133, u 134, u 135, u 136, u 137, u 138, u 139, u 140, u 141, u 142, u 143, u 144, u 145, u 146, u 147, u 148, u 149, u 150, u 151, u 152, u 153, u 154, u 155, u 156, u 157, u 158, u 159, u 160, u 161, u 162, u 163, u 164, u 165, u 166, u 167, u 168, u 169, u 170, u 171, u 172, u 173, u 174, u 175, u 176, u 177, u 178, u 179, u 180, u 181, u 182, u 183, u 184, u 185, u 186, u 187, u 188, u 189, u 190, u 191, u 192, u 193, u 194, u 195, u 196, u 197, u 198, u 199, u 200, u 201, u 202, u 203, u 204, u 205, u 206, u 207, u 208, u 209, u 210, u 211, u 212, u 213, u 214, u 215, u 216, u 217, u 218, u 219, u 220, u 221, u 222, u 223, u 224, u 225, u 226, u 227, u 228, u 229, u 230, u 231, u 232, u 233, u 234, u 235, u 236, u 237, u 238, u 239, u 240, u 241, u 242, u 243, u 244, u 245, u 246, u 247, u 248, u 249, u 250, u 251, u 252, u 253, u 254, u 255, u 256, u 257, u 258, u 259, u 260, u 261, u 262, u 263, u 264, u 265, u 266, u 267, u 268, u 269, u 270, u 271, u 272, u 273, u 274, u 275, u 276, u 277, u 278, u 279, u 280, u 281, u 282, u 283, u 284, u 285, u 286, u 287, u 288, u 289, u 290], []⟩ : Act)) (fun u wr => ∃ (i : Nat) (m : List Pane), i ≤ ds.length ∧ u 7 = .int .i64 i ∧ Hid (Rd encP wr (u 6) m) ∧ Hid (RisP m) ∧ Hid (keysP m key) ∧ Hid (m.length ≤ i) ∧ Hid (Below w.heap.size w wr)) (fun u _ => ds.length - (intOf (u 7)).toNat) mm) Q) ((fun u => (⟨#[.slice A ds.length c, .string key, u 2, u 3, u 4, .bool true, u 6, u 7, u 8, u 9, u 10, u 11, u 12, u 13, u 14, u 15, u 16, u 17, u 18, u 19, u 20, u 21, u 22, u 23, u 24, u 25, u 26, u 27, u 28, u 29, u 30, u 31, u 32, u 33, u 34, u 35, u 36, u 37, u 38, u 39, u 40, u 41, u 42, u 43, u 44, u 45, u 46, u 47, u 48, u 49, u 50, u 51, u 52, u 53, u 54, u 55, u 56, u 57, u 58, u 59, u 60, u 61, u 62, u 63, u 64, u 65, u 66, u 67, u 68, u 69, u 70, u 71, u 72, u 73, u 74, u 75, u 76, u 77, u 78, u 79, u 80, u 81, u 82, u 83, u 84, u 85, u 86, u 87, u 88, u 89, u 90, u 91, u 92, u 93, u 94, u 95, u 96, u 97, u 98, u 99, u 100, u 101, u 102, u 103, u 104, u 105, u 106, u 107, u 108, u 109, u 110, u 111, u 112, u 113, u 114, u 115, u 116, u 117, u 118, u 119, u 120, u 121, u 122, u 123, u 124, u 125, u 126, u 127, u 128, u 129, u 130, u 131, u 132, u 133, u 134, u 135, u 136, u 137, u 138, u 139, u 140, u 141, u 142, u 143, u 144, u 145, u 146, u 147, u 148, u 149, u 150, u 151, u 152, u 153, u 154, u 155, u 156, u 157, u 158, u 159, u 160, u 161, u 162, u 163, u 164, u 165, u 166, u 167, u 168, u 169, u 170, u 171, u 172, u 173, u 174, u 175, u 176, u 177, u 178, u 179, u 180, u 181, u 182, u 183, u 184, u 185, u 186, u 187, u 188, u 189, u 190, u 191, u 192, u 193, u 194, u 195, u 196, u 197, u 198, u 199, u 200, u 201, u 202, u 203, u 204, u 205, u 206, u 207, u 208, u 209, u 210, u 211, u 212, u 213, u 214, u 215, u 216, u 217, u 218, u 219, u 220, u 221, u 222, u 223, u 224, u 225, u 226, u 227, u 228, u 229, u 230, u 231, u 232, u 233, u 234, u 235, u 236, u 237, u 238, u 239, u 240, u 241, u 242, u 243, u 244, u 245, u 246, u 247, u 248, u 249, u 250, u 251, u 252, u 253, u 254, u 255, u 256, u 257, u 258, u 259, u 260, u 261, u 262, u 263, u 264, u 265, u 266, u 267, u 268, u 269, u 270, u 271, u 272, u 273, u 274, u 275, u 276, u 277, u 278, u 279, u 280, u 281, u 282, u 283, u 284, u 285, u 286, u 287, u 288, u 289, u 290], []⟩ : Act)) u) wr
end Go.Proofs.Ytkmjehodmfnihaa
