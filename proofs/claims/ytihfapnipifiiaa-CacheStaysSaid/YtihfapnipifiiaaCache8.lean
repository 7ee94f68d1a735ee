/- The walks of cache.Get and Name of no cache. -/
import Derived.Test.YtihfapnipifiiaaCache7
namespace Go.Proofs.Ytihfapnipifiiaa
open Go Go.RowKit Go.Shelf

set_option maxRecDepth 100000 in
set_option maxHeartbeats 1000000 in
theorem get_nil (n : ByteArray) (t q : Int) (now : Int) (w : World) (hs : n.size ≤ 140737488355200) (t0 : 0 ≤ t) (t1 : t ≤ 65535) (q0 : 0 ≤ q) (q1 : q ≤ 65535) :
    Calls Try.prog 22 #[.pointer none, .string n, .int .u16 t, .int .u16 q, .int .i64 now] w fun r w' => r = .returned (.tuple #[zeroE.val (.slice none 0 0), .bool false]) ∧ Below w.heap.size w w' := by
  have hb0 : Below w.heap.size w (w.alloc (.cells #[.int .i64 0, .string ⟨#[]⟩, .int .u16 0, .int .u16 0, .slice none 0 0, .int .i64 0, .int .i64 0, .int .i64 0, .int .i64 0] 25)) := (Below.refl _ w).alloc (Nat.le_refl _) _
  have Hb0 := Lib.hid hb0
  clear hb0
  rw [zero_val]
  go_enter Try.func22, Try.ntmps22
  go_wp2_with fail
  refine (keyOf_any 0 n t q _ (by omega) (by omega) (by omega) (by omega) (by omega)).mono ?_
  rintro e w1 ⟨rfl, h1⟩
  have hz1 := h1.size
  rw [World.size_alloc] at hz1
  have hb1 : w1.heap[w.heap.size]? = some (.cells #[.int .i64 0, .string ⟨#[]⟩, .int .u16 0, .int .u16 0, .slice none 0 0, .int .i64 0, .int .i64 0, .int .i64 0, .int .i64 0] 25 (0, 0)) := (h1.block _ (by simp)).trans (heap_alloc_new _ _)
  have Hb1 := Lib.hid (Hb0.out.trans (h1.mono (by simp)))
  have HB1 := Lib.hid hb1
  clear h1 hb1
  go_wp2_with fail
  refine (tell_nil _ now w1).mono ?_
  rw [zero_val]
  rintro r w2 ⟨rfl, h2⟩
  have hb3 := (h2.block _ (by omega)).trans HB1.out
  have Hb2 := Lib.hid (Hb1.out.trans (h2.mono (by omega)))
  have hz2 := h2.size
  have z0 : w2.cell? ⟨w.heap.size, 0, none⟩ = some (.int .i64 0) := by simp [World.cell?, hb3]
  have z1 : w2.cell? ⟨w.heap.size, 1, none⟩ = some (.string ⟨#[]⟩) := by simp [World.cell?, hb3]
  have z2 : w2.cell? ⟨w.heap.size, 2, none⟩ = some (.int .u16 0) := by simp [World.cell?, hb3]
  have z3 : w2.cell? ⟨w.heap.size, 3, none⟩ = some (.int .u16 0) := by simp [World.cell?, hb3]
  have z4 : w2.cell? ⟨w.heap.size, 4, none⟩ = some (.slice none 0 0) := by simp [World.cell?, hb3]
  have z5 : w2.cell? ⟨w.heap.size, 5, none⟩ = some (.int .i64 0) := by simp [World.cell?, hb3]
  have z6 : w2.cell? ⟨w.heap.size, 6, none⟩ = some (.int .i64 0) := by simp [World.cell?, hb3]
  have z7 : w2.cell? ⟨w.heap.size, 7, none⟩ = some (.int .i64 0) := by simp [World.cell?, hb3]
  have z8 : w2.cell? ⟨w.heap.size, 8, none⟩ = some (.int .i64 0) := by simp [World.cell?, hb3]
  have f0 : w2.frozen? ⟨w.heap.size, 0, none⟩ = false := by simp [World.frozen?, hb3]
  have f1 : w2.frozen? ⟨w.heap.size, 1, none⟩ = false := by simp [World.frozen?, hb3]
  have f2 : w2.frozen? ⟨w.heap.size, 2, none⟩ = false := by simp [World.frozen?, hb3]
  have f3 : w2.frozen? ⟨w.heap.size, 3, none⟩ = false := by simp [World.frozen?, hb3]
  have f4 : w2.frozen? ⟨w.heap.size, 4, none⟩ = false := by simp [World.frozen?, hb3]
  have f5 : w2.frozen? ⟨w.heap.size, 5, none⟩ = false := by simp [World.frozen?, hb3]
  have f6 : w2.frozen? ⟨w.heap.size, 6, none⟩ = false := by simp [World.frozen?, hb3]
  have f7 : w2.frozen? ⟨w.heap.size, 7, none⟩ = false := by simp [World.frozen?, hb3]
  have f8 : w2.frozen? ⟨w.heap.size, 8, none⟩ = false := by simp [World.frozen?, hb3]
  clear h2 hb3
  go_wp2_with fail
  refine bodyPost_ret (v := .tuple #[.agg #[.int .i64 0, .string ⟨#[]⟩, .int .u16 0, .int .u16 0, .slice none 0 0, .int .i64 0, .int .i64 0, .int .i64 0, .int .i64 0], .bool false]) (by simp [results, Try.results22, go_sem, z0, z1, z2, z3, z4, z5, z6, z7, z8]) rfl ⟨rfl, ?_⟩
  exact ModS.below_of Hb2.out ((((((((((ModS.refl (fun k => k = w.heap.size) _).set rfl _).set rfl _).set rfl _).set rfl _).set rfl _).set rfl _).set rfl _).set rfl _).set rfl _) (by omega) (fun k hk => by omega)

set_option maxRecDepth 100000 in
set_option maxHeartbeats 1000000 in
theorem name_nil (n : ByteArray) (q : Int) (now : Int) (w : World) (hs : n.size ≤ 140737488355200) (q0 : 0 ≤ q) (q1 : q ≤ 65535) :
    Calls Try.prog 25 #[.pointer none, .string n, .int .u16 q, .int .i64 now] w fun r w' => r = .returned (.tuple #[zeroE.val (.slice none 0 0), .bool false]) ∧ Below w.heap.size w w' := by
  have hb0 : Below w.heap.size w (w.alloc (.cells #[.int .i64 0, .string ⟨#[]⟩, .int .u16 0, .int .u16 0, .slice none 0 0, .int .i64 0, .int .i64 0, .int .i64 0, .int .i64 0] 25)) := (Below.refl _ w).alloc (Nat.le_refl _) _
  have Hb0 := Lib.hid hb0
  clear hb0
  rw [zero_val]
  go_enter Try.func25, Try.ntmps25
  go_wp2_with fail
  refine (keyOf_any 1 n 0 q _ (by omega) (by omega) (by omega) (by omega) (by omega)).mono ?_
  rintro e w1 ⟨rfl, h1⟩
  have hz1 := h1.size
  rw [World.size_alloc] at hz1
  have hb1 : w1.heap[w.heap.size]? = some (.cells #[.int .i64 0, .string ⟨#[]⟩, .int .u16 0, .int .u16 0, .slice none 0 0, .int .i64 0, .int .i64 0, .int .i64 0, .int .i64 0] 25 (0, 0)) := (h1.block _ (by simp)).trans (heap_alloc_new _ _)
  have Hb1 := Lib.hid (Hb0.out.trans (h1.mono (by simp)))
  have HB1 := Lib.hid hb1
  clear h1 hb1
  go_wp2_with fail
  refine (tell_nil _ now w1).mono ?_
  rw [zero_val]
  rintro r w2 ⟨rfl, h2⟩
  have hb3 := (h2.block _ (by omega)).trans HB1.out
  have Hb2 := Lib.hid (Hb1.out.trans (h2.mono (by omega)))
  have hz2 := h2.size
  have z0 : w2.cell? ⟨w.heap.size, 0, none⟩ = some (.int .i64 0) := by simp [World.cell?, hb3]
  have z1 : w2.cell? ⟨w.heap.size, 1, none⟩ = some (.string ⟨#[]⟩) := by simp [World.cell?, hb3]
  have z2 : w2.cell? ⟨w.heap.size, 2, none⟩ = some (.int .u16 0) := by simp [World.cell?, hb3]
  have z3 : w2.cell? ⟨w.heap.size, 3, none⟩ = some (.int .u16 0) := by simp [World.cell?, hb3]
  have z4 : w2.cell? ⟨w.heap.size, 4, none⟩ = some (.slice none 0 0) := by simp [World.cell?, hb3]
  have z5 : w2.cell? ⟨w.heap.size, 5, none⟩ = some (.int .i64 0) := by simp [World.cell?, hb3]
  have z6 : w2.cell? ⟨w.heap.size, 6, none⟩ = some (.int .i64 0) := by simp [World.cell?, hb3]
  have z7 : w2.cell? ⟨w.heap.size, 7, none⟩ = some (.int .i64 0) := by simp [World.cell?, hb3]
  have z8 : w2.cell? ⟨w.heap.size, 8, none⟩ = some (.int .i64 0) := by simp [World.cell?, hb3]
  have f0 : w2.frozen? ⟨w.heap.size, 0, none⟩ = false := by simp [World.frozen?, hb3]
  have f1 : w2.frozen? ⟨w.heap.size, 1, none⟩ = false := by simp [World.frozen?, hb3]
  have f2 : w2.frozen? ⟨w.heap.size, 2, none⟩ = false := by simp [World.frozen?, hb3]
  have f3 : w2.frozen? ⟨w.heap.size, 3, none⟩ = false := by simp [World.frozen?, hb3]
  have f4 : w2.frozen? ⟨w.heap.size, 4, none⟩ = false := by simp [World.frozen?, hb3]
  have f5 : w2.frozen? ⟨w.heap.size, 5, none⟩ = false := by simp [World.frozen?, hb3]
  have f6 : w2.frozen? ⟨w.heap.size, 6, none⟩ = false := by simp [World.frozen?, hb3]
  have f7 : w2.frozen? ⟨w.heap.size, 7, none⟩ = false := by simp [World.frozen?, hb3]
  have f8 : w2.frozen? ⟨w.heap.size, 8, none⟩ = false := by simp [World.frozen?, hb3]
  clear h2 hb3
  go_wp2_with fail
  refine bodyPost_ret (v := .tuple #[.agg #[.int .i64 0, .string ⟨#[]⟩, .int .u16 0, .int .u16 0, .slice none 0 0, .int .i64 0, .int .i64 0, .int .i64 0, .int .i64 0], .bool false]) (by simp [results, Try.results25, go_sem, z0, z1, z2, z3, z4, z5, z6, z7, z8]) rfl ⟨rfl, ?_⟩
  exact ModS.below_of Hb2.out ((((((((((ModS.refl (fun k => k = w.heap.size) _).set rfl _).set rfl _).set rfl _).set rfl _).set rfl _).set rfl _).set rfl _).set rfl _).set rfl _) (by omega) (fun k hk => by omega)
end Go.Proofs.Ytihfapnipifiiaa
