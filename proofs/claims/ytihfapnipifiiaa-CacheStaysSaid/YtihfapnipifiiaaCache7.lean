/- The walks of cache.Get and Name. -/
import Derived.Test.YtihfapnipifiiaaCache6
namespace Go.Proofs.Ytihfapnipifiiaa
open Go Go.RowKit Go.Shelf

theorem get_fin {w w1 w2 w4 : World} {c : Ca} {k : List UInt8} {now : Int} {r : Ending} (h : CaAt w c) (hb : Below w.heap.size w w1) (hz : w.heap.size + 1 ≤ w1.heap.size) (ht : Told w1 c k now r w2) (m4 : ModS (fun k => k = w.heap.size) w2 w4) : Told w c k now r w4 := by
  rcases ht with ⟨hno, hr, hB⟩ | ⟨x, hx, hk, hn, rv', hr, ho, hca, hm⟩
  · exact .inl ⟨hno, hr, ModS.below_of (hb.trans (hB.mono hb.size)) m4 (by have := hB.size; omega) (fun k hk => by omega)⟩
  · refine .inr ⟨x, hx, hk, hn, rv', hr, (ho.same (fun k cur hk hc => m4.block k (Array.getElem?_eq_some_iff.1 hc).1 ?_)).mono (by omega), hca.same (fun k hk => m4.block k (hca.own_lt hk).2 ?_), ?_⟩
    · have := (own_cells ho k hk).1
      omega
    · have := (h.own_lt (use_own hk)).2
      omega
    · have h1 : ModS c.own w w2 := (((ModS.refl c.own w).below hb).trans hm)
      exact h1.comp m4 (fun i hi e => absurd hi (by omega))

set_option maxRecDepth 100000 in
set_option maxHeartbeats 1000000 in
theorem get_any (c : Ca) (n : ByteArray) (t q : Int) (now : Int) (w : World) (h : CaAt w c) (hu : -9223372036854775808 ≤ c.uses ∧ c.uses < 9223372036854775807) (hs : n.size ≤ 1048576) (t0 : 0 ≤ t) (t1 : t ≤ 65535) (q0 : 0 ≤ q) (q1 : q ≤ 65535) :
    Calls Try.prog 22 #[.pointer (some ⟨c.cb, 0, none⟩), .string n, .int .u16 t, .int .u16 q, .int .i64 now] w fun r w' => Told w c (keyL 0 (lst n) t q) now r w' := by
  have hb0 : Below w.heap.size w (w.alloc (.cells #[.int .i64 0, .string ⟨#[]⟩, .int .u16 0, .int .u16 0, .slice none 0 0, .int .i64 0, .int .i64 0, .int .i64 0, .int .i64 0] 25)) := (Below.refl _ w).alloc (Nat.le_refl _) _
  have H := Lib.hid h
  have Hb0 := Lib.hid hb0
  clear h hb0
  go_enter Try.func22, Try.ntmps22
  go_wp2_with fail
  refine (keyOf_any 0 n t q _ (by omega) (by omega) (by omega) (by omega) (by omega)).mono ?_
  rintro e w1 ⟨rfl, h1⟩
  have hz1 := h1.size
  rw [World.size_alloc] at hz1
  have hb1 : w1.heap[w.heap.size]? = some (.cells #[.int .i64 0, .string ⟨#[]⟩, .int .u16 0, .int .u16 0, .slice none 0 0, .int .i64 0, .int .i64 0, .int .i64 0, .int .i64 0] 25 (0, 0)) := (h1.block _ (by simp)).trans (heap_alloc_new _ _)
  have Hb1 := Lib.hid (Hb0.out.trans (h1.mono (by simp)))
  have H1 := Lib.hid (H.out.below Hb1.out)
  have HB1 := Lib.hid hb1
  clear h1 hb1
  go_wp2_with fail
  refine (tell_any c (keyL 0 (lst n) t q) now w1 H1.out hu).mono ?_
  intro r w2 ht
  have hown : ¬ c.own w.heap.size := fun e => by have := (H.out.own_lt e).2; omega
  rcases ht with ⟨hno, rfl, hB⟩ | ⟨x, hx, hk, hn, rv', rfl, ho, hca, hm⟩
  · have hb3 := (hB.block _ (by omega)).trans HB1.out
    have Fin := Lib.hid (fun w4 => get_fin (w4 := w4) (now := now) (k := keyL 0 (lst n) t q) H.out Hb1.out hz1 (.inl ⟨hno, rfl, hB⟩))
    rw [zero_val] at Fin ⊢
    have z0 : w2.cell? ⟨w.heap.size, 0, none⟩ = some (.int .i64 0) := by simp [World.cell?, hb3]
    have z1 : w2.cell? ⟨w.heap.size, 1, none⟩ = some (.string ⟨#[]⟩) := by simp [World.cell?, hb3]
    have z2 : w2.cell? ⟨w.heap.size, 2, none⟩ = some (.int .u16 0) := by simp [World.cell?, hb3]
    have z3 : w2.cell? ⟨w.heap.size, 3, none⟩ = some (.int .u16 0) := by simp [World.cell?, hb3]
    have z4 : w2.cell? ⟨w.heap.size, 4, none⟩ = some (.slice none 0 0) := by simp [World.cell?, hb3]
    have z5 : w2.cell? ⟨w.heap.size, 5, none⟩ = some (.int .i64 0) := by simp [World.cell?, hb3]
    have z6 : w2.cell? ⟨w.heap.size, 6, none⟩ = some (.int .i64 0) := by simp [World.cell?, hb3]
    have z7 : w2.cell? ⟨w.heap.size, 7, none⟩ = some (.int .i64 0) := by simp [World.cell?, hb3]
    have z8 : w2.cell? ⟨w.heap.size, 8, none⟩ = some (.int .i64 0) := by simp [World.cell?, hb3]
    have f0 : w2.frozen? ⟨w.heap.size, 0, none⟩ = false := by simp [World.frozen?, hb3]
    have f1 : w2.frozen? ⟨w.heap.size, 1, none⟩ = false := by simp [World.frozen?, hb3]
    have f2 : w2.frozen? ⟨w.heap.size, 2, none⟩ = false := by simp [World.frozen?, hb3]
    have f3 : w2.frozen? ⟨w.heap.size, 3, none⟩ = false := by simp [World.frozen?, hb3]
    have f4 : w2.frozen? ⟨w.heap.size, 4, none⟩ = false := by simp [World.frozen?, hb3]
    have f5 : w2.frozen? ⟨w.heap.size, 5, none⟩ = false := by simp [World.frozen?, hb3]
    have f6 : w2.frozen? ⟨w.heap.size, 6, none⟩ = false := by simp [World.frozen?, hb3]
    have f7 : w2.frozen? ⟨w.heap.size, 7, none⟩ = false := by simp [World.frozen?, hb3]
    have f8 : w2.frozen? ⟨w.heap.size, 8, none⟩ = false := by simp [World.frozen?, hb3]
    clear hno hB hown hb3
    go_wp2_with fail
    refine bodyPost_ret (v := .tuple #[.agg #[.int .i64 0, .string ⟨#[]⟩, .int .u16 0, .int .u16 0, .slice none 0 0, .int .i64 0, .int .i64 0, .int .i64 0, .int .i64 0], .bool false]) (by simp [results, Try.results22, go_sem, z0, z1, z2, z3, z4, z5, z6, z7, z8]) rfl ?_
    exact Fin.out _ ((((((((((ModS.refl (fun k => k = w.heap.size) _).set rfl _).set rfl _).set rfl _).set rfl _).set rfl _).set rfl _).set rfl _).set rfl _).set rfl _)
  · have hb3 := (hm.block _ (by omega) hown).trans HB1.out
    obtain ⟨A, cap, rfl⟩ := ho.shape
    have Fin := Lib.hid (fun w4 => get_fin (w4 := w4) (now := now) (k := keyL 0 (lst n) t q) H.out Hb1.out hz1 (.inr ⟨x, hx, hk, hn, _, rfl, ho, hca, hm⟩))
    unfold Ent.val at Fin ⊢
    have z0 : w2.cell? ⟨w.heap.size, 0, none⟩ = some (.int .i64 0) := by simp [World.cell?, hb3]
    have z1 : w2.cell? ⟨w.heap.size, 1, none⟩ = some (.string ⟨#[]⟩) := by simp [World.cell?, hb3]
    have z2 : w2.cell? ⟨w.heap.size, 2, none⟩ = some (.int .u16 0) := by simp [World.cell?, hb3]
    have z3 : w2.cell? ⟨w.heap.size, 3, none⟩ = some (.int .u16 0) := by simp [World.cell?, hb3]
    have z4 : w2.cell? ⟨w.heap.size, 4, none⟩ = some (.slice none 0 0) := by simp [World.cell?, hb3]
    have z5 : w2.cell? ⟨w.heap.size, 5, none⟩ = some (.int .i64 0) := by simp [World.cell?, hb3]
    have z6 : w2.cell? ⟨w.heap.size, 6, none⟩ = some (.int .i64 0) := by simp [World.cell?, hb3]
    have z7 : w2.cell? ⟨w.heap.size, 7, none⟩ = some (.int .i64 0) := by simp [World.cell?, hb3]
    have z8 : w2.cell? ⟨w.heap.size, 8, none⟩ = some (.int .i64 0) := by simp [World.cell?, hb3]
    have f0 : w2.frozen? ⟨w.heap.size, 0, none⟩ = false := by simp [World.frozen?, hb3]
    have f1 : w2.frozen? ⟨w.heap.size, 1, none⟩ = false := by simp [World.frozen?, hb3]
    have f2 : w2.frozen? ⟨w.heap.size, 2, none⟩ = false := by simp [World.frozen?, hb3]
    have f3 : w2.frozen? ⟨w.heap.size, 3, none⟩ = false := by simp [World.frozen?, hb3]
    have f4 : w2.frozen? ⟨w.heap.size, 4, none⟩ = false := by simp [World.frozen?, hb3]
    have f5 : w2.frozen? ⟨w.heap.size, 5, none⟩ = false := by simp [World.frozen?, hb3]
    have f6 : w2.frozen? ⟨w.heap.size, 6, none⟩ = false := by simp [World.frozen?, hb3]
    have f7 : w2.frozen? ⟨w.heap.size, 7, none⟩ = false := by simp [World.frozen?, hb3]
    have f8 : w2.frozen? ⟨w.heap.size, 8, none⟩ = false := by simp [World.frozen?, hb3]
    clear hx hk hn ho hca hm hown hb3
    go_wp2_with fail
    refine bodyPost_ret (v := .tuple #[.agg #[.int .i64 x.ent.kind, .string (bs x.ent.name), .int .u16 x.ent.t, .int .u16 x.ent.c, .slice A x.ent.recs.length cap, .int .i64 x.ent.til, .int .i64 x.ent.rank, .int .i64 x.ent.epoch, .int .i64 x.ent.source], .bool true]) (by simp [results, Try.results22, go_sem, z0, z1, z2, z3, z4, z5, z6, z7, z8]) rfl ?_
    exact Fin.out _ ((((((((((ModS.refl (fun k => k = w.heap.size) _).set rfl _).set rfl _).set rfl _).set rfl _).set rfl _).set rfl _).set rfl _).set rfl _).set rfl _)

set_option maxRecDepth 100000 in
set_option maxHeartbeats 1000000 in
theorem name_any (c : Ca) (n : ByteArray) (q : Int) (now : Int) (w : World) (h : CaAt w c) (hu : -9223372036854775808 ≤ c.uses ∧ c.uses < 9223372036854775807) (hs : n.size ≤ 1048576) (q0 : 0 ≤ q) (q1 : q ≤ 65535) :
    Calls Try.prog 25 #[.pointer (some ⟨c.cb, 0, none⟩), .string n, .int .u16 q, .int .i64 now] w fun r w' => Told w c (keyL 1 (lst n) 0 q) now r w' := by
  have hb0 : Below w.heap.size w (w.alloc (.cells #[.int .i64 0, .string ⟨#[]⟩, .int .u16 0, .int .u16 0, .slice none 0 0, .int .i64 0, .int .i64 0, .int .i64 0, .int .i64 0] 25)) := (Below.refl _ w).alloc (Nat.le_refl _) _
  have H := Lib.hid h
  have Hb0 := Lib.hid hb0
  clear h hb0
  go_enter Try.func25, Try.ntmps25
  go_wp2_with fail
  refine (keyOf_any 1 n 0 q _ (by omega) (by omega) (by omega) (by omega) (by omega)).mono ?_
  rintro e w1 ⟨rfl, h1⟩
  have hz1 := h1.size
  rw [World.size_alloc] at hz1
  have hb1 : w1.heap[w.heap.size]? = some (.cells #[.int .i64 0, .string ⟨#[]⟩, .int .u16 0, .int .u16 0, .slice none 0 0, .int .i64 0, .int .i64 0, .int .i64 0, .int .i64 0] 25 (0, 0)) := (h1.block _ (by simp)).trans (heap_alloc_new _ _)
  have Hb1 := Lib.hid (Hb0.out.trans (h1.mono (by simp)))
  have H1 := Lib.hid (H.out.below Hb1.out)
  have HB1 := Lib.hid hb1
  clear h1 hb1
  go_wp2_with fail
  refine (tell_any c (keyL 1 (lst n) 0 q) now w1 H1.out hu).mono ?_
  intro r w2 ht
  have hown : ¬ c.own w.heap.size := fun e => by have := (H.out.own_lt e).2; omega
  rcases ht with ⟨hno, rfl, hB⟩ | ⟨x, hx, hk, hn, rv', rfl, ho, hca, hm⟩
  · have hb3 := (hB.block _ (by omega)).trans HB1.out
    have Fin := Lib.hid (fun w4 => get_fin (w4 := w4) (now := now) (k := keyL 1 (lst n) 0 q) H.out Hb1.out hz1 (.inl ⟨hno, rfl, hB⟩))
    rw [zero_val] at Fin ⊢
    have z0 : w2.cell? ⟨w.heap.size, 0, none⟩ = some (.int .i64 0) := by simp [World.cell?, hb3]
    have z1 : w2.cell? ⟨w.heap.size, 1, none⟩ = some (.string ⟨#[]⟩) := by simp [World.cell?, hb3]
    have z2 : w2.cell? ⟨w.heap.size, 2, none⟩ = some (.int .u16 0) := by simp [World.cell?, hb3]
    have z3 : w2.cell? ⟨w.heap.size, 3, none⟩ = some (.int .u16 0) := by simp [World.cell?, hb3]
    have z4 : w2.cell? ⟨w.heap.size, 4, none⟩ = some (.slice none 0 0) := by simp [World.cell?, hb3]
    have z5 : w2.cell? ⟨w.heap.size, 5, none⟩ = some (.int .i64 0) := by simp [World.cell?, hb3]
    have z6 : w2.cell? ⟨w.heap.size, 6, none⟩ = some (.int .i64 0) := by simp [World.cell?, hb3]
    have z7 : w2.cell? ⟨w.heap.size, 7, none⟩ = some (.int .i64 0) := by simp [World.cell?, hb3]
    have z8 : w2.cell? ⟨w.heap.size, 8, none⟩ = some (.int .i64 0) := by simp [World.cell?, hb3]
    have f0 : w2.frozen? ⟨w.heap.size, 0, none⟩ = false := by simp [World.frozen?, hb3]
    have f1 : w2.frozen? ⟨w.heap.size, 1, none⟩ = false := by simp [World.frozen?, hb3]
    have f2 : w2.frozen? ⟨w.heap.size, 2, none⟩ = false := by simp [World.frozen?, hb3]
    have f3 : w2.frozen? ⟨w.heap.size, 3, none⟩ = false := by simp [World.frozen?, hb3]
    have f4 : w2.frozen? ⟨w.heap.size, 4, none⟩ = false := by simp [World.frozen?, hb3]
    have f5 : w2.frozen? ⟨w.heap.size, 5, none⟩ = false := by simp [World.frozen?, hb3]
    have f6 : w2.frozen? ⟨w.heap.size, 6, none⟩ = false := by simp [World.frozen?, hb3]
    have f7 : w2.frozen? ⟨w.heap.size, 7, none⟩ = false := by simp [World.frozen?, hb3]
    have f8 : w2.frozen? ⟨w.heap.size, 8, none⟩ = false := by simp [World.frozen?, hb3]
    clear hno hB hown hb3
    go_wp2_with fail
    refine bodyPost_ret (v := .tuple #[.agg #[.int .i64 0, .string ⟨#[]⟩, .int .u16 0, .int .u16 0, .slice none 0 0, .int .i64 0, .int .i64 0, .int .i64 0, .int .i64 0], .bool false]) (by simp [results, Try.results25, go_sem, z0, z1, z2, z3, z4, z5, z6, z7, z8]) rfl ?_
    exact Fin.out _ ((((((((((ModS.refl (fun k => k = w.heap.size) _).set rfl _).set rfl _).set rfl _).set rfl _).set rfl _).set rfl _).set rfl _).set rfl _).set rfl _)
  · have hb3 := (hm.block _ (by omega) hown).trans HB1.out
    obtain ⟨A, cap, rfl⟩ := ho.shape
    have Fin := Lib.hid (fun w4 => get_fin (w4 := w4) (now := now) (k := keyL 1 (lst n) 0 q) H.out Hb1.out hz1 (.inr ⟨x, hx, hk, hn, _, rfl, ho, hca, hm⟩))
    unfold Ent.val at Fin ⊢
    have z0 : w2.cell? ⟨w.heap.size, 0, none⟩ = some (.int .i64 0) := by simp [World.cell?, hb3]
    have z1 : w2.cell? ⟨w.heap.size, 1, none⟩ = some (.string ⟨#[]⟩) := by simp [World.cell?, hb3]
    have z2 : w2.cell? ⟨w.heap.size, 2, none⟩ = some (.int .u16 0) := by simp [World.cell?, hb3]
    have z3 : w2.cell? ⟨w.heap.size, 3, none⟩ = some (.int .u16 0) := by simp [World.cell?, hb3]
    have z4 : w2.cell? ⟨w.heap.size, 4, none⟩ = some (.slice none 0 0) := by simp [World.cell?, hb3]
    have z5 : w2.cell? ⟨w.heap.size, 5, none⟩ = some (.int .i64 0) := by simp [World.cell?, hb3]
    have z6 : w2.cell? ⟨w.heap.size, 6, none⟩ = some (.int .i64 0) := by simp [World.cell?, hb3]
    have z7 : w2.cell? ⟨w.heap.size, 7, none⟩ = some (.int .i64 0) := by simp [World.cell?, hb3]
    have z8 : w2.cell? ⟨w.heap.size, 8, none⟩ = some (.int .i64 0) := by simp [World.cell?, hb3]
    have f0 : w2.frozen? ⟨w.heap.size, 0, none⟩ = false := by simp [World.frozen?, hb3]
    have f1 : w2.frozen? ⟨w.heap.size, 1, none⟩ = false := by simp [World.frozen?, hb3]
    have f2 : w2.frozen? ⟨w.heap.size, 2, none⟩ = false := by simp [World.frozen?, hb3]
    have f3 : w2.frozen? ⟨w.heap.size, 3, none⟩ = false := by simp [World.frozen?, hb3]
    have f4 : w2.frozen? ⟨w.heap.size, 4, none⟩ = false := by simp [World.frozen?, hb3]
    have f5 : w2.frozen? ⟨w.heap.size, 5, none⟩ = false := by simp [World.frozen?, hb3]
    have f6 : w2.frozen? ⟨w.heap.size, 6, none⟩ = false := by simp [World.frozen?, hb3]
    have f7 : w2.frozen? ⟨w.heap.size, 7, none⟩ = false := by simp [World.frozen?, hb3]
    have f8 : w2.frozen? ⟨w.heap.size, 8, none⟩ = false := by simp [World.frozen?, hb3]
    clear hx hk hn ho hca hm hown hb3
    go_wp2_with fail
    refine bodyPost_ret (v := .tuple #[.agg #[.int .i64 x.ent.kind, .string (bs x.ent.name), .int .u16 x.ent.t, .int .u16 x.ent.c, .slice A x.ent.recs.length cap, .int .i64 x.ent.til, .int .i64 x.ent.rank, .int .i64 x.ent.epoch, .int .i64 x.ent.source], .bool true]) (by simp [results, Try.results25, go_sem, z0, z1, z2, z3, z4, z5, z6, z7, z8]) rfl ?_
    exact Fin.out _ ((((((((((ModS.refl (fun k => k = w.heap.size) _).set rfl _).set rfl _).set rfl _).set rfl _).set rfl _).set rfl _).set rfl _).set rfl _).set rfl _)
end Go.Proofs.Ytihfapnipifiiaa
