/- A variable that holds an entry, in a block of its own. -/
import Derived.Test.YtihfapnipifiiaaMach
set_option linter.unusedVariables false
set_option linter.unusedSimpArgs false
namespace Go.Proofs.Ytihfapnipifiiaa
open Go Go.RowKit Go.Shelf

/-- A variable that holds an entry. -/
def EntBox (W : World) (k : Nat) (e : Ent) (rv : Value) : Prop := W.heap[k]? = some (.cells #[.int .i64 e.kind, .string (bs e.name), .int .u16 e.t, .int .u16 e.c, rv, .int .i64 e.til, .int .i64 e.rank, .int .i64 e.epoch, .int .i64 e.source] 25 (0, 0))
theorem EntBox.cells {W : World} {k : Nat} {e : Ent} {rv : Value} (h : EntBox W k e rv) : W.cell? ⟨k, 0, none⟩ = some (.int .i64 e.kind) ∧ W.cell? ⟨k, 1, none⟩ = some (.string (bs e.name)) ∧ W.cell? ⟨k, 2, none⟩ = some (.int .u16 e.t) ∧ W.cell? ⟨k, 3, none⟩ = some (.int .u16 e.c) ∧ W.cell? ⟨k, 4, none⟩ = some (rv) ∧ W.cell? ⟨k, 5, none⟩ = some (.int .i64 e.til) ∧ W.cell? ⟨k, 6, none⟩ = some (.int .i64 e.rank) ∧ W.cell? ⟨k, 7, none⟩ = some (.int .i64 e.epoch) ∧ W.cell? ⟨k, 8, none⟩ = some (.int .i64 e.source) := by
  unfold EntBox at h
  refine ⟨?_, ?_, ?_, ?_, ?_, ?_, ?_, ?_, ?_⟩ <;> simp [World.cell?, h]
theorem EntBox.free {W : World} {k : Nat} {e : Ent} {rv : Value} (h : EntBox W k e rv) : W.frozen? ⟨k, 0, none⟩ = false ∧ W.frozen? ⟨k, 1, none⟩ = false ∧ W.frozen? ⟨k, 2, none⟩ = false ∧ W.frozen? ⟨k, 3, none⟩ = false ∧ W.frozen? ⟨k, 4, none⟩ = false ∧ W.frozen? ⟨k, 5, none⟩ = false ∧ W.frozen? ⟨k, 6, none⟩ = false ∧ W.frozen? ⟨k, 7, none⟩ = false ∧ W.frozen? ⟨k, 8, none⟩ = false := by
  unfold EntBox at h
  refine ⟨?_, ?_, ?_, ?_, ?_, ?_, ?_, ?_, ?_⟩ <;> simp [World.frozen?, h]
theorem EntBox.lt {W : World} {k : Nat} {e : Ent} {rv : Value} (h : EntBox W k e rv) : k < W.heap.size := (Array.getElem?_eq_some_iff.1 h).1
theorem EntBox.below {W W' : World} {k : Nat} {e : Ent} {rv : Value} (h : EntBox W k e rv) (hb : Below W.heap.size W W') : EntBox W' k e rv := (hb.block k h.lt).trans h
theorem EntBox.past {w w' : World} {c c' : Ca} {k : Nat} {e : Ent} {rv : Value} (h : EntBox w k e rv) (a : After w c w' c') (hn : ¬ c.own k) : EntBox w' k e rv ∧ ¬ c'.own k := ⟨(a.still h.lt hn).1.trans h, (a.still h.lt hn).2.1⟩
theorem EntBox.new (W : World) (e : Ent) (rv : Value) : EntBox (W.alloc (.cells #[.int .i64 e.kind, .string (bs e.name), .int .u16 e.t, .int .u16 e.c, rv, .int .i64 e.til, .int .i64 e.rank, .int .i64 e.epoch, .int .i64 e.source] 25)) W.heap.size e rv := heap_alloc_new _ _
/-- A store of a whole entry. -/
theorem EntBox.set {W : World} {k : Nat} {q : Ent} {qv : Value} (h : EntBox W k q qv) (e : Ent) (rv : Value) : EntBox (((((((((W.setCell ⟨k, 0, none⟩ (.int .i64 e.kind)).setCell ⟨k, 1, none⟩ (.string (bs e.name))).setCell ⟨k, 2, none⟩ (.int .u16 e.t)).setCell ⟨k, 3, none⟩ (.int .u16 e.c)).setCell ⟨k, 4, none⟩ (rv)).setCell ⟨k, 5, none⟩ (.int .i64 e.til)).setCell ⟨k, 6, none⟩ (.int .i64 e.rank)).setCell ⟨k, 7, none⟩ (.int .i64 e.epoch)).setCell ⟨k, 8, none⟩ (.int .i64 e.source)) k e rv ∧ ModS (fun j => j = k) W (((((((((W.setCell ⟨k, 0, none⟩ (.int .i64 e.kind)).setCell ⟨k, 1, none⟩ (.string (bs e.name))).setCell ⟨k, 2, none⟩ (.int .u16 e.t)).setCell ⟨k, 3, none⟩ (.int .u16 e.c)).setCell ⟨k, 4, none⟩ (rv)).setCell ⟨k, 5, none⟩ (.int .i64 e.til)).setCell ⟨k, 6, none⟩ (.int .i64 e.rank)).setCell ⟨k, 7, none⟩ (.int .i64 e.epoch)).setCell ⟨k, 8, none⟩ (.int .i64 e.source)) := by
  refine ⟨?_, (((((((((ModS.refl (fun j => j = k) W).set rfl _).set rfl _).set rfl _).set rfl _).set rfl _).set rfl _).set rfl _).set rfl _).set rfl _⟩
  unfold EntBox at h ⊢
  simp [World.setCell, Array.getElem?_modify, h]
/-- A variable that holds an entry, its records in a row of its own; nothing of it is the cache's. -/
structure Held (W : World) (c : Ca) (k : Nat) (e : Ent) (rv : Value) : Prop where
  box : EntBox W k e rv
  far : ¬ c.own k
  recs : ∃ S, RecsOwn W S rv e.recs
  apart : ∀ j, rv.ownBlock = some j → ¬ c.own j
section
variable {W w w' w1 w0 : World} {c c' : Ca} {k : Nat} {e : Ent} {rv : Value}
theorem Held.past (h : Held w c k e rv) (a : After w c w' c') : Held w' c' k e rv := by
  obtain ⟨S, hr⟩ := h.recs
  obtain ⟨h1, h2⟩ := h.box.past a h.far
  obtain ⟨h3, h4⟩ := hr.past a h.apart
  exact ⟨h1, h2, ⟨S, h3⟩, h4⟩
theorem Held.below (h : Held w c k e rv) (hb : Below w.heap.size w w') : Held w' c k e rv := by
  obtain ⟨S, hr⟩ := h.recs
  exact ⟨h.box.below hb, h.far, ⟨S, hr.below hb⟩, h.apart⟩
theorem Held.at (h : Held w c k e rv) : RecsAt w rv e.recs := by
  obtain ⟨S, hr⟩ := h.recs
  exact hr.at
theorem Held.shape (h : Held w c k e rv) : ∃ A cap, rv = .slice A e.recs.length cap := by
  obtain ⟨S, hr⟩ := h.recs
  exact hr.shape
theorem Held.lt (h : Held w c k e rv) : k < w.heap.size := h.box.lt
/-- What was told, in a new variable. -/
theorem held_told {B b : Nat} {most : Int} {n n' : Nat} {L L' : List Ent} (h : Mine B w0 b most n L w c) (hb : Below w.heap.size w w1) (hM : Mine B w0 b most n' L' w' c') (ha : After w1 c w' c' ∧ ∀ k, c'.own k → c.own k) (ho : RecsOwn w' w1.heap.size rv e.recs) :
    Held (w'.alloc (.cells #[.int .i64 e.kind, .string (bs e.name), .int .u16 e.t, .int .u16 e.c, rv, .int .i64 e.til, .int .i64 e.rank, .int .i64 e.epoch, .int .i64 e.source] 25)) c' w'.heap.size e rv := by
  refine ⟨EntBox.new _ _ _, hM.far (Nat.le_refl _), ⟨_, ho.below ((Below.refl _ _).alloc (Nat.le_refl _) _)⟩, fun j hj q => ?_⟩
  have h1 := (own_cells ho j hj).1
  have h2 := (h.at'.own_lt (ha.2 j q)).2
  have := hb.size
  omega
end
end Go.Proofs.Ytihfapnipifiiaa
