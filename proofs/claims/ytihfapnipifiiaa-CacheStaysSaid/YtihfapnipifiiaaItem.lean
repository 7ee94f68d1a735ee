/- How a cache's items lie in memory. -/
import Derived.Test.YtihfapnipifiiaaRef5b
import Derived.Test.YtihfapnipifiiaaKeySpec
namespace Go.Proofs.Ytihfapnipifiiaa
open Go Go.RowKit Go.Shelf

theorem bel_alloc {w W : World} (h : Below w.heap.size w W) (o : Obj) : Below w.heap.size w (W.alloc o) := h.alloc h.size o

/-- An entry of a cache. -/
structure Ent where
  kind : Int
  name : List UInt8
  t : Int
  c : Int
  recs : List RRec
  til : Int
  rank : Int
  epoch : Int
  source : Int
def Ent.key (e : Ent) : List UInt8 := if e.kind = 3 then keyL 1 e.name 0 e.c else keyL 0 e.name e.t e.c
def Ent.vals (e : Ent) (rv : Value) : List Value := [.int .i64 e.kind, .string (bs e.name), .int .u16 e.t, .int .u16 e.c, rv, .int .i64 e.til, .int .i64 e.rank, .int .i64 e.epoch, .int .i64 e.source]

/-- Records in memory, to be read. -/
def RecsAt (w : World) (v : Value) (rs : List RRec) : Prop :=
  ∃ A cap, v = .slice A rs.length cap ∧ rs.length ≤ cap ∧ (rs = [] ∨ ∃ b off, A = some ⟨b, off, none⟩ ∧ ∀ i r, rs[i]? = some r → ∀ j u, r.cells[j]? = some u → w.cell? ⟨b, off + i * 5 + j, none⟩ = some u)
theorem RecsAt.below {w w' : World} {v : Value} {rs : List RRec} (h : RecsAt w v rs) (hb : Below w.heap.size w w') : RecsAt w' v rs := by
  obtain ⟨A, cap, e, hc, h⟩ := h
  refine ⟨A, cap, e, hc, h.imp id ?_⟩
  rintro ⟨b, off, ea, hk⟩
  exact ⟨b, off, ea, fun i r hi j u hj => (hb.cell (blk_of_cell (hk i r hi j u hj))).trans (hk i r hi j u hj)⟩

/-- An item. -/
structure It where
  ent : Ent
  used : Int
  blk : Nat
  rv : Value
def It.cells (x : It) (at_ : Nat) : Array Value :=
  #[.int .i64 x.ent.kind, .string (bs x.ent.name), .int .u16 x.ent.t, .int .u16 x.ent.c, x.rv, .int .i64 x.ent.til, .int .i64 x.ent.rank, .int .i64 x.ent.epoch, .int .i64 x.ent.source,
    .string (bs x.ent.key), .int .i64 x.used, .int .i64 at_]
def It.ptr (x : It) : Value := .pointer (some ⟨x.blk, 0, none⟩)

/-- An item's block. -/
def ItemAt (W : World) (x : It) (at_ : Nat) : Prop := W.heap[x.blk]? = some (.cells (x.cells at_) 103 (0, 0))
theorem ItemAt.cell {W : World} {x : It} {a : Nat} (h : ItemAt W x a) {o : Nat} {v : Value} (ho : (x.cells a)[o]? = some v) : W.cell? ⟨x.blk, o, none⟩ = some v := by
  unfold ItemAt at h; simp [World.cell?, h, ho]
theorem ItemAt.free {W : World} {x : It} {a : Nat} (h : ItemAt W x a) (o : Nat) : W.frozen? ⟨x.blk, o, none⟩ = false := by
  unfold ItemAt at h; simp [World.frozen?, h]
theorem ItemAt.setAt {W : World} {x : It} {a : Nat} (h : ItemAt W x a) (b : Nat) : ItemAt (W.setCell ⟨x.blk, 11, none⟩ (.int .i64 b)) x b := by
  unfold ItemAt at h ⊢
  simp [World.setCell, Array.getElem?_modify, h, It.cells]
theorem ItemAt.setUsed {W : World} {x : It} {a : Nat} (h : ItemAt W x a) (u : Int) : ItemAt (W.setCell ⟨x.blk, 10, none⟩ (.int .i64 u)) { x with used := u } a := by
  unfold ItemAt at h ⊢
  simp [World.setCell, Array.getElem?_modify, h, It.cells]
theorem ItemAt.same {W W' : World} {x : It} {a : Nat} (h : ItemAt W x a) (e : W'.heap[x.blk]? = W.heap[x.blk]?) : ItemAt W' x a := e.trans h
theorem ItemAt.lt {W : World} {x : It} {a : Nat} (h : ItemAt W x a) : x.blk < W.heap.size := (Array.getElem?_eq_some_iff.1 h).1

/-- The row of a heap, in a block of its own: the pointers to its items; each item knows where it stands. -/
structure HeapRow (W : World) (g cap : Nat) (its : List It) : Prop where
  row : RowIs W g 100 cap (fun i => ((its[i]?).map It.ptr).getD undef) its.length
  items : ∀ i x, its[i]? = some x → ItemAt W x i
  nodup : (its.map It.blk).Nodup
  le : its.length ≤ cap
  most : cap ≤ maxLen

/-- Only some blocks have turned. -/
structure ModS (S : Nat → Prop) (w w' : World) : Prop where
  os : w'.os = w.os
  tape : w'.tape = w.tape
  output : w'.output = w.output
  size : w.heap.size ≤ w'.heap.size
  block : ∀ k, k < w.heap.size → ¬ S k → w'.heap[k]? = w.heap[k]?
theorem ModS.refl (S : Nat → Prop) (w : World) : ModS S w w := ⟨rfl, rfl, rfl, Nat.le_refl _, fun _ _ _ => rfl⟩
theorem ModS.trans {S : Nat → Prop} {a b c : World} (h : ModS S a b) (k : ModS S b c) : ModS S a c :=
  ⟨k.os.trans h.os, k.tape.trans h.tape, k.output.trans h.output, Nat.le_trans h.size k.size, fun i hi hn => (k.block i (Nat.lt_of_lt_of_le hi h.size) hn).trans (h.block i hi hn)⟩
theorem ModS.mono {S T : Nat → Prop} {a b : World} (h : ModS S a b) (hs : ∀ k, S k → T k) : ModS T a b := ⟨h.os, h.tape, h.output, h.size, fun k hk hn => h.block k hk (fun hS => hn (hs k hS))⟩
theorem ModS.drew {S : Nat → Prop} {a b : World} (h : ModS S a b) : ModS S a b.drew := ⟨h.os, h.tape, h.output, h.size, h.block⟩
theorem ModS.drewN {S : Nat → Prop} {a b : World} (h : ModS S a b) (n : Nat) : ModS S a (b.drewN n) := ⟨h.os, h.tape, h.output, h.size, h.block⟩
theorem ModS.set {S : Nat → Prop} {a b : World} (h : ModS S a b) {p : Addr} (hp : S p.block) (v : Value) : ModS S a (b.setCell p v) :=
  h.trans ⟨rfl, rfl, rfl, by simp [World.setCell], fun k _ hn => Below.heap_setCell _ _ _ _ (fun e => hn (by rw [e]; exact hp))⟩
theorem ModS.alloc {S : Nat → Prop} {a b : World} (h : ModS S a b) (o : Obj) : ModS S a (b.alloc o) :=
  h.trans ⟨rfl, rfl, rfl, by simp, fun k hk _ => Below.heap_alloc _ _ _ hk⟩
theorem ModS.below {S : Nat → Prop} {a b c : World} (h : ModS S a b) (k : Below b.heap.size b c) : ModS S a c :=
  h.trans ⟨k.os, k.tape, k.output, k.size, fun i hi _ => k.block i hi⟩
theorem ModS.grown {S : Nat → Prop} {a b c : World} {row : Option Nat} (h : ModS S a b) (k : b.grownBy c row) (hr : ∀ j, row = some j → S j) : ModS S a c :=
  h.trans ⟨k.os, k.tape, k.output, k.size, fun i hi hn => k.block i hi (fun e => hn (hr i e.symm))⟩
theorem ModS.below_of {S : Nat → Prop} {B : Nat} {w a b : World} (hb : Below B w a) (h : ModS S a b) (hB : B ≤ a.heap.size) (hS : ∀ k, S k → B ≤ k) : Below B w b :=
  hb.trans ⟨h.os, h.tape, h.output, h.size, fun k hk => h.block k (by omega) (fun hs => by have := hS k hs; omega)⟩
end Go.Proofs.Ytihfapnipifiiaa
