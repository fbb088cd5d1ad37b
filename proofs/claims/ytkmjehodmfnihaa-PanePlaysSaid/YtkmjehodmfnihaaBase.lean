/-
  Words for this seat's walks: pure functions on numbers, facts on worlds.
-/
import Derived.Test.YtkmjehodmfnihaaProg
import Derived.Test.YtkmjehodmfnihaaPin
import Derived.WalkKit
import Derived.WalkSpells
import Derived.WalkLawsBesides
import Derived.Deep.QuietTactic
import Derived.BigQuiet
namespace Go.Proofs.Ytkmjehodmfnihaa
open Go.RowKit

theorem lib_below_drewN {B : Nat} {w W : World} (h : Below B w W) (n : Nat) : Below B w (W.drewN n) := ⟨h.os, h.tape, h.output, h.size, h.block⟩
theorem bfacts {W w1 : World} (hb : Below W.heap.size W w1) : (∀ b o, b < W.heap.size → w1.cell? ⟨b, o, none⟩ = W.cell? ⟨b, o, none⟩) ∧ (∀ b o, b < W.heap.size → w1.frozen? ⟨b, o, none⟩ = W.frozen? ⟨b, o, none⟩) ∧ W.heap.size ≤ w1.heap.size :=
  ⟨fun b o h => hb.cell (p := ⟨b, o, none⟩) h, fun b o h => hb.frozen (p := ⟨b, o, none⟩) h, hb.size⟩
theorem below_then {B : Nat} {w w1 w2 : World} (h : Below B w w1) (hB : B ≤ w1.heap.size) (k : Below w1.heap.size w1 w2) : Below B w w2 :=
  h.trans ⟨k.os, k.tape, k.output, k.size, fun i hi => k.block i (Nat.lt_of_lt_of_le hi hB)⟩

theorem alloc_get (w : World) (o : Obj) (i : Nat) : (w.alloc o).heap[i]? = if i = w.heap.size then some o else w.heap[i]? := by
  show (w.heap.push o)[i]? = _
  rw [Array.getElem?_push]
theorem drewN_heap (w : World) (n : Nat) : (w.drewN n).heap = w.heap := rfl
theorem blk_lt {w : World} {b : Nat} {o : Obj} (h : w.heap[b]? = some o) : b < w.heap.size := (Array.getElem?_eq_some_iff.1 h).1
/-- block b is these cells, and may be written -/
def Blk (w : World) (b : Nat) (cs : Array Value) (t : TypeId) : Prop := w.heap[b]? = some (.cells cs t (0, 0))
theorem Blk.out {w : World} {b : Nat} {cs : Array Value} {t : TypeId} (h : Blk w b cs t) : w.heap[b]? = some (.cells cs t (0, 0)) := h
theorem Blk.lt {w : World} {b : Nat} {cs : Array Value} {t : TypeId} (h : Blk w b cs t) : b < w.heap.size := blk_lt h.out
theorem blk_facts {w : World} {b : Nat} {cs : Array Value} {t : TypeId} (h : Blk w b cs t) : (∀ i, w.cell? ⟨b, i, none⟩ = cs[i]?) ∧ (∀ i, w.frozen? ⟨b, i, none⟩ = false) := by
  have h := h.out
  constructor
  · intro i; simp [World.cell?, h]
  · intro i; simp [World.frozen?, h]
theorem Blk.below {w w2 : World} {b : Nat} {cs : Array Value} {t : TypeId} (h : Blk w b cs t) (hb : Below w.heap.size w w2) : Blk w2 b cs t := (hb.block b h.lt).trans h
/-- .. of a world written out: the last block laid, and those ahead of it -/
theorem Blk.new (w : World) (cs : Array Value) (t : TypeId) : Blk (w.alloc (.cells cs t)) w.heap.size cs t := by
  unfold Blk; rw [alloc_get, if_pos rfl]
theorem Blk.new2 (w : World) (o : Obj) (cs : Array Value) (t : TypeId) : Blk ((w.alloc o).alloc (.cells cs t)) (w.heap.size + 1) cs t := by
  unfold Blk; rw [alloc_get, World.size_alloc, if_pos rfl]
theorem Blk.new3 (w : World) (o o2 : Obj) (cs : Array Value) (t : TypeId) : Blk (((w.alloc o).alloc o2).alloc (.cells cs t)) (w.heap.size + 1 + 1) cs t := by
  unfold Blk; rw [alloc_get, World.size_alloc, World.size_alloc, if_pos rfl]
theorem Blk.alloc {w : World} {b : Nat} {cs : Array Value} {t : TypeId} (h : Blk w b cs t) (o : Obj) : Blk (w.alloc o) b cs t := by
  have := h.lt
  unfold Blk; rw [alloc_get, if_neg (by omega)]; exact h
theorem Blk.drewN {w : World} {b : Nat} {cs : Array Value} {t : TypeId} (h : Blk w b cs t) (n : Nat) : Blk (w.drewN n) b cs t := h
theorem Blk.drew {w : World} {b : Nat} {cs : Array Value} {t : TypeId} (h : Blk w b cs t) : Blk w.drew b cs t := h
theorem Blk.setOther {w : World} {b : Nat} {cs : Array Value} {t : TypeId} {a : Addr} {v : Value} (h : Blk w b cs t) (hne : b ≠ a.block) : Blk (w.setCell a v) b cs t := by
  unfold Blk; rw [Below.heap_setCell _ _ _ _ hne]; exact h
theorem Blk.set {w : World} {b : Nat} {cs : Array Value} {t : TypeId} (h : Blk w b cs t) (i : Nat) (v : Value) : Blk (w.setCell ⟨b, i, none⟩ v) b (cs.setIfInBounds i v) t := by
  have h := h.out
  unfold Blk
  simp only [World.setCell, Array.getElem?_modify, h]
  simp
theorem hid_mk {p : Prop} (h : p) : Hid p := h
/-- -1, 0, 1 -/
def cmpI (x y : Int) : Int := if x < y then -1 else if y < x then 1 else 0
def orI (x y : Int) : Int := if x = 0 then y else x
def minI (x y : Int) : Int := if y < x then y else x
def maxI (x y : Int) : Int := if x < y then y else x
theorem minI_r {x y : Int} (h : y < x) : minI x y = y := by simp [minI, h]
theorem minI_l {x y : Int} (h : x ≤ y) : minI x y = x := by unfold minI; rw [if_neg (by omega)]
theorem maxI_r {x y : Int} (h : x < y) : maxI x y = y := by simp [maxI, h]
theorem maxI_l {x y : Int} (h : y ≤ x) : maxI x y = x := by unfold maxI; rw [if_neg (by omega)]
/-- does it fit into 64 bits? -/
def fit (x : Int) : Bool := decide (-9223372036854775808 ≤ x) && decide (x ≤ 9223372036854775807)
theorem fit_iff (x : Int) : fit x = true ↔ -9223372036854775808 ≤ x ∧ x ≤ 9223372036854775807 := by simp [fit]
theorem fit_wrap {x : Int} (h : fit x = true) : wrap64 x = x := by rw [fit_iff] at h; unfold wrap64; omega
end Go.Proofs.Ytkmjehodmfnihaa
