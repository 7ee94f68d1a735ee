/- Small facts on worlds. -/
import Derived.WalkKit
import Derived.Lib.Hide
import Derived.Test.YtihfapnipifiiaaRange
import Derived.Test.YtihfapnipifiiaaSpec
import Derived.Lib.Strings
namespace Go.Proofs.Ytihfapnipifiiaa
open Go Go.RowKit

theorem cell_set_ne {w : World} {a b : Addr} {v : Value} (h : b.block ≠ a.block) : (w.setCell a v).cell? b = w.cell? b :=
  World.cell?_of_block (Below.heap_setCell w a v _ h)
theorem frozen_set {w : World} {a b : Addr} {v : Value} : (w.setCell a v).frozen? b = w.frozen? b := by rw [World.frozen?_setCell]
theorem cell_set_same {w : World} {a : Addr} {v u : Value} (h : w.cell? a = some u) : (w.setCell a v).cell? a = some v :=
  World.cell?_setCell_same' _ _ _ (by rw [h]; rfl)
theorem bcell {W w1 : World} (hb : Below W.heap.size W w1) : (∀ b o, b < W.heap.size → w1.cell? ⟨b, o, none⟩ = W.cell? ⟨b, o, none⟩) ∧ (∀ b o, b < W.heap.size → w1.frozen? ⟨b, o, none⟩ = W.frozen? ⟨b, o, none⟩) :=
  ⟨fun b o h => hb.cell (p := ⟨b, o, none⟩) h, fun b o h => hb.frozen (p := ⟨b, o, none⟩) h⟩
theorem blk_of_cell {w : World} {a : Addr} {v : Value} (h : w.cell? a = some v) : a.block < w.heap.size := World.block_lt_of_cell? w a h
theorem own_cells {w : World} {base : Nat} {e : TypeId} {size n : Nat} {v : Value} {xs : List Value} (h : w.ownsRow base e size v n xs) (k : Nat) (hk : v.ownBlock = some k) :
    base ≤ k ∧ ∃ cur, w.heap[k]? = some (.cells cur e (0, 0)) := by
  rcases h.2 with ⟨rfl, _⟩ | ⟨g, cap, cur, rfl, hb, hh, _⟩
  · simp [Value.ownBlock] at hk
  · have : g = k := by simpa [Value.ownBlock] using hk
    subst this; exact ⟨hb, cur, hh⟩
theorem own_ne {w : World} {base : Nat} {e : TypeId} {size n : Nat} {v : Value} {xs : List Value} (h : w.ownsRow base e size v n xs) (b : Nat) (hb : b < base) : v.ownBlock = none ∨ v.ownBlock ≠ some b := by
  by_cases hk : v.ownBlock = some b
  · have := (own_cells h b hk).1; omega
  · exact .inr hk
/-- What a store of a block below the row's base leaves of it. -/
theorem own_set {w : World} {base : Nat} {e : TypeId} {size n : Nat} {v : Value} {xs : List Value} (h : w.ownsRow base e size v n xs) {a : Addr} (ha : a.block < base) (u : Value) : (w.setCell a u).ownsRow base e size v n xs := ownsRow_setCell_below h ha u
theorem own_below {w w1 : World} {base : Nat} {e : TypeId} {size n : Nat} {v : Value} {xs : List Value} (h : w.ownsRow base e size v n xs) (hb : Below w.heap.size w w1) : w1.ownsRow base e size v n xs :=
  h.kept (row := none) ⟨hb.os, hb.tape, hb.output, hb.size, fun i hi _ => hb.block i hi⟩ (by cases v.ownBlock <;> simp)
/-- A cell that is not of the row that may have been written. -/
theorem grown_cell {w w' : World} {row : Option Nat} (hg : w.grownBy w' row) {a : Addr} {v : Value} (h : w.cell? a = some v) (hr : row ≠ some a.block) : w'.cell? a = some v ∧ w'.frozen? a = w.frozen? a := by
  have e := hg.block a.block (blk_of_cell h) (fun e => hr e.symm)
  exact ⟨(World.cell?_of_block e).trans h, World.frozen?_of_block e⟩
theorem putObj_cell {w : World} {r : Nat} {o o' : Obj} (h : w.heap[r]? = some o) (hc : o.isCells = false) (a : Addr) {v : Value} (ha : w.cell? a = some v) : (w.putObj r o').cell? a = some v ∧ (w.putObj r o').frozen? a = w.frozen? a := by
  have hne : a.block ≠ r := by
    intro e
    rw [← e] at h
    unfold World.cell? at ha; rw [h] at ha
    cases o <;> simp_all [Obj.isCells]
  have e := World.putObj_heap_other (w := w) (o := o') hne
  exact ⟨(World.cell?_of_block e).trans ha, World.frozen?_of_block e⟩
theorem putObj_own {w : World} {r : Nat} {o o' : Obj} {base : Nat} {e : TypeId} {size n : Nat} {v : Value} {xs : List Value} (h : w.heap[r]? = some o) (hc : o.isCells = false) (hown : w.ownsRow base e size v n xs) : (w.putObj r o').ownsRow base e size v n xs := by
  refine hown.kept (row := some r) (grownBy_putObj' w r o') ?_
  by_cases hk : v.ownBlock = some r
  · obtain ⟨_, cur, hh⟩ := own_cells hown r hk
    rw [hh] at h; cases h; simp [Obj.isCells] at hc
  · exact .inr hk
theorem putObj_below {B : Nat} {w W : World} {r : Nat} {o' : Obj} (hb : Below B w W) (hB : B ≤ r) : Below B w (W.putObj r o') :=
  hb.trans ⟨rfl, rfl, rfl, by simp, fun k hk => World.putObj_heap_other (by omega)⟩
theorem keepsNC_grown {B : Nat} {w w' : World} {row : Option Nat} (hg : w.grownBy w' row) (hr : ∀ k, row = some k → ∃ c e f, w.heap[k]? = some (.cells c e f)) : KeepsNC B w w' := by
  intro r o _ ho hc
  have hlt : r < w.heap.size := (Array.getElem?_eq_some_iff.1 ho).1
  rw [hg.block r hlt ?_]; · exact ho
  intro e
  obtain ⟨c, e', f, h⟩ := hr r e.symm
  rw [ho] at h; cases h; simp [Obj.isCells] at hc
theorem keepsNC_alloc (B : Nat) (w : World) (o : Obj) : KeepsNC B w (w.alloc o) := fun r o' _ ho _ => (Below.heap_alloc w o r (Array.getElem?_eq_some_iff.1 ho).1).trans ho
theorem keepsNC_set (B : Nat) (w : World) (a : Addr) (v : Value) : KeepsNC B w (w.setCell a v) := KeepsNC.of_others (KeepsOthers.setCell _ _ _)
theorem alloc_cell {w : World} {a : Addr} {v : Value} (h : w.cell? a = some v) (o : Obj) : (w.alloc o).cell? a = some v ∧ (w.alloc o).frozen? a = w.frozen? a := by
  have e := Below.heap_alloc w o a.block (blk_of_cell h)
  exact ⟨(World.cell?_of_block e).trans h, World.frozen?_of_block e⟩
theorem toList_bs (l : List UInt8) : (bs l).toList = l := by rw [ByteArray.toList_eq]; exact lst_bs l
theorem toList_lst (s : ByteArray) : s.toList = lst s := ByteArray.toList_eq s
end Go.Proofs.Ytihfapnipifiiaa
