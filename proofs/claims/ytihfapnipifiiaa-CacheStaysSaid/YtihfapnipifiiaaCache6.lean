/- The walks of cache.tell, Get, Name. -/
import Derived.Test.YtihfapnipifiiaaCache5
namespace Go.Proofs.Ytihfapnipifiiaa
open Go Go.RowKit Go.Shelf

def zeroE : Ent := ⟨0, [], 0, 0, [], 0, 0, 0, 0⟩
theorem zero_val : zeroE.val (.slice none 0 0) = .agg #[.int .i64 0, .string ⟨#[]⟩, .int .u16 0, .int .u16 0, .slice none 0 0, .int .i64 0, .int .i64 0, .int .i64 0, .int .i64 0] := rfl
/-- What a cache tells. -/
def Told (w : World) (c : Ca) (k : List UInt8) (now : Int) (r : Ending) (w' : World) : Prop :=
  ((∀ x ∈ c.ord, x.ent.key = k → x.ent.til < now) ∧ r = .returned (.tuple #[zeroE.val (.slice none 0 0), .bool false]) ∧ Below w.heap.size w w') ∨
  ∃ x ∈ c.ord, x.ent.key = k ∧ now ≤ x.ent.til ∧ ∃ rv', r = .returned (.tuple #[x.ent.val rv', .bool true]) ∧ RecsOwn w' w.heap.size rv' x.ent.recs ∧ CaAt w' (c.use x) ∧ ModS c.own w w'
theorem CaAt.key_one {W : World} {c : Ca} (h : CaAt W c) {x y : It} (hx : x ∈ c.its) (hy : y ∈ c.its) (e : x.ent.key = y.ent.key) : x = y := by
  rcases h.map with ⟨_, e0⟩ | ⟨mb, _, _, hm⟩
  · rw [e0] at hx; cases hx
  · have hn := hm.nodup
    obtain ⟨i, hi, rfl⟩ := List.getElem_of_mem hx
    obtain ⟨j, hj, rfl⟩ := List.getElem_of_mem hy
    have h1 : (c.its.map fun x => x.ent.key)[i]'(by simpa using hi) = (c.its.map fun x => x.ent.key)[j]'(by simpa using hj) := by rw [List.getElem_map, List.getElem_map, e]
    have h2 := (List.getElem_inj hn).1 h1
    subst h2; rfl
theorem recs_few {e : Ent} (h : cchk e = 0) : e.recs.length ≤ 64 := by
  unfold cchk at h
  split at h
  · rename_i h1
    simp only [Bool.and_eq_true] at h1
    have h2 := h1.1.2
    unfold lenOk within at h2
    split at h2
    · simp only [Bool.and_eq_true, decide_eq_true_eq] at h2; omega
    · simp only [Bool.and_eq_true, decide_eq_true_eq] at h2; omega
  · cases h

theorem look_any {W : World} {c : Ca} (h : CaAt W c) (k : List UInt8) :
    ((∀ x ∈ c.its, x.ent.key ≠ k) ∧ (Instr.lookup 87 c.mv (.string (bs k)) true).run Try.prog W = .ok (.tuple #[.pointer none, .bool false]) W) ∨
    ∃ x ∈ c.its, x.ent.key = k ∧ (Instr.lookup 87 c.mv (.string (bs k)) true).run Try.prog W = .ok (.tuple #[.pointer (some ⟨x.blk, 0, none⟩), .bool true]) W := by
  rcases h.map with ⟨e, e0⟩ | ⟨mb, e, _, hm⟩
  · left
    rw [e, e0]
    exact ⟨fun x hx => (by cases hx), look_nil _ _⟩
  · rw [e]
    by_cases hk : ∃ x ∈ c.its, x.ent.key = k
    · obtain ⟨x, hx, rfl⟩ := hk
      exact .inr ⟨x, hx, rfl, look_hit hm hx⟩
    · have hk' : ∀ x ∈ c.its, x.ent.key ≠ k := fun x hx e => hk ⟨x, hx, e⟩
      exact .inl ⟨hk', look_miss hm hk'⟩

set_option maxRecDepth 100000 in
theorem tell_nil (k : ByteArray) (now : Int) (w : World) :
    Calls Try.prog 61 #[.pointer none, .string k, .int .i64 now] w fun r w' => r = .returned (.tuple #[zeroE.val (.slice none 0 0), .bool false]) ∧ Below w.heap.size w w' := by
  rw [zero_val]
  go_enter Try.func61, Try.ntmps61
  go_wp2
  exact bodyPost_ret (v := .tuple #[.agg #[.int .i64 0, .string ⟨#[]⟩, .int .u16 0, .int .u16 0, .slice none 0 0, .int .i64 0, .int .i64 0, .int .i64 0, .int .i64 0], .bool false]) (by simp [results, Try.results61, go_sem]) rfl ⟨rfl, (Below.refl _ w).alloc (Nat.le_refl _) _⟩

theorem CaAt.itemCells {W : World} {c : Ca} (h : CaAt W c) {x : It} (hx : x ∈ c.its) : W.cell? ⟨x.blk, 0, none⟩ = some (.int .i64 x.ent.kind) ∧ W.cell? ⟨x.blk, 1, none⟩ = some (.string (bs x.ent.name)) ∧ W.cell? ⟨x.blk, 2, none⟩ = some (.int .u16 x.ent.t) ∧ W.cell? ⟨x.blk, 3, none⟩ = some (.int .u16 x.ent.c) ∧ W.cell? ⟨x.blk, 4, none⟩ = some x.rv ∧
    W.cell? ⟨x.blk, 5, none⟩ = some (.int .i64 x.ent.til) ∧ W.cell? ⟨x.blk, 6, none⟩ = some (.int .i64 x.ent.rank) ∧ W.cell? ⟨x.blk, 7, none⟩ = some (.int .i64 x.ent.epoch) ∧ W.cell? ⟨x.blk, 8, none⟩ = some (.int .i64 x.ent.source) ∧ W.cell? ⟨x.blk, 10, none⟩ = some (.int .i64 x.used) ∧ W.frozen? ⟨x.blk, 10, none⟩ = false := by
  obtain ⟨i, _, _, hi⟩ := h.item hx
  exact ⟨hi.cell rfl, hi.cell rfl, hi.cell rfl, hi.cell rfl, hi.cell rfl, hi.cell rfl, hi.cell rfl, hi.cell rfl, hi.cell rfl, hi.cell rfl, hi.free 10⟩

/-- Behind the use of an item, and an alloc. -/
theorem use_world {w W2 : World} {c : Ca} {x : It} {o : Obj} (h : CaAt w c) (hx : x ∈ c.its) (hW : W2 = (((w.setCell ⟨c.cb, 3, none⟩ (.int .i64 (c.uses + 1))).setCell ⟨x.blk, 10, none⟩ (.int .i64 (c.uses + 1))).alloc o)) :
    CaAt W2 (c.use x) ∧ ModS c.own w W2 ∧ W2.heap.size = w.heap.size + 1 ∧ W2.heap[w.heap.size]? = some o := by
  have hm : ModS c.own w ((w.setCell ⟨c.cb, 3, none⟩ (.int .i64 (c.uses + 1))).setCell ⟨x.blk, 10, none⟩ (.int .i64 (c.uses + 1))) :=
    ((ModS.refl c.own w).set (p := ⟨c.cb, 3, none⟩) (.inl rfl) _).set (p := ⟨x.blk, 10, none⟩) (.inr (.inr (.inr (.inl (List.mem_map.2 ⟨x, hx, rfl⟩))))) _
  have hz : ((w.setCell ⟨c.cb, 3, none⟩ (.int .i64 (c.uses + 1))).setCell ⟨x.blk, 10, none⟩ (.int .i64 (c.uses + 1))).heap.size = w.heap.size := by simp [World.setCell]
  have ha := heap_alloc_new ((w.setCell ⟨c.cb, 3, none⟩ (.int .i64 (c.uses + 1))).setCell ⟨x.blk, 10, none⟩ (.int .i64 (c.uses + 1))) o
  rw [hz] at ha
  rw [hW]
  exact ⟨(use_at h hx rfl).below ((Below.refl _ _).alloc (Nat.le_refl _) _), hm.alloc o, by rw [World.size_alloc, hz], ha⟩
theorem tell_fin {w W2 w3 w4 : World} {c : Ca} {x : It} {rv' : Value} (h : CaAt w c) (hx : x ∈ c.its) (h2 : CaAt W2 (c.use x)) (m2 : ModS c.own w W2) (hz : W2.heap.size = w.heap.size + 1) (h3 : Below W2.heap.size W2 w3) (ho : RecsOwn w3 W2.heap.size rv' x.ent.recs)
    (m4 : ModS (fun k => k = w.heap.size) w3 w4) : RecsOwn w4 w.heap.size rv' x.ent.recs ∧ CaAt w4 (c.use x) ∧ ModS c.own w w4 := by
  have hs := h3.size
  refine ⟨(ho.same (fun k cur hk hc => m4.block k (Array.getElem?_eq_some_iff.1 hc).1 ?_)).mono (by omega), (h2.below h3).same (fun k hk => m4.block k ?_ ?_), ?_⟩
  · have := (own_cells ho k hk).1
    omega
  · have := (h.own_lt (use_own hk)).2
    omega
  · have := (h.own_lt (use_own hk)).2
    omega
  · exact (m2.below h3).comp m4 (fun i hi e => absurd hi (by omega))

set_option maxRecDepth 100000 in
set_option maxHeartbeats 1000000 in
theorem tell_any (c : Ca) (k : List UInt8) (now : Int) (w : World) (h : CaAt w c) (hu : -9223372036854775808 ≤ c.uses ∧ c.uses < 9223372036854775807) :
    Calls Try.prog 61 #[.pointer (some ⟨c.cb, 0, none⟩), .string (bs k), .int .i64 now] w fun r w' => Told w c k now r w' := by
  obtain ⟨W1, hW1⟩ : ∃ W1, W1 = w.alloc (.cells #[.int .i64 0, .string ⟨#[]⟩, .int .u16 0, .int .u16 0, .slice none 0 0, .int .i64 0, .int .i64 0, .int .i64 0, .int .i64 0] 25) := ⟨_, rfl⟩
  have hb1 : Below w.heap.size w W1 := by rw [hW1]; exact (Below.refl _ w).alloc (Nat.le_refl _) _
  have h1 : CaAt W1 c := h.below hb1
  have hcl := h.lt
  obtain ⟨⟨c0, c1, c2, c3⟩, f0⟩ := h1.cells
  have f3 := f0 3
  rcases look_any h1 k with ⟨hk, hl⟩ | ⟨x, hx, hk, hl⟩
  · have fin : Told w c k now (.returned (.tuple #[zeroE.val (.slice none 0 0), .bool false])) W1 := .inl ⟨fun x hx e => absurd e (hk x (h.perm.mem_iff.1 hx)), rfl, hb1⟩
    rw [zero_val] at fin
    have Fin := Lib.hid fin
    generalize c.mv = mv at *
    clear fin h h1 hk c0 c2 c3 f0 f3 hb1
    subst hW1
    go_enter Try.func61, Try.ntmps61
    go_wp2
    exact bodyPost_ret (v := .tuple #[.agg #[.int .i64 0, .string ⟨#[]⟩, .int .u16 0, .int .u16 0, .slice none 0 0, .int .i64 0, .int .i64 0, .int .i64 0, .int .i64 0], .bool false]) (by simp [results, Try.results61, go_sem]) rfl Fin.out
  · obtain ⟨i0, i1, i2, i3, i4, i5, i6, i7, i8, i10, if10⟩ := h1.itemCells hx
    have hxb := h.items x hx
    have hxl : x.blk < w.heap.size := by obtain ⟨_, _, _, hi⟩ := h.item hx; exact hi.lt
    have hne : c.cb ≠ x.blk := by omega
    by_cases hn : x.ent.til < now
    · have fin : Told w c k now (.returned (.tuple #[zeroE.val (.slice none 0 0), .bool false])) W1 := .inl ⟨fun y hy e => by
        have := h.key_one (h.perm.mem_iff.1 hy) hx (e.trans hk.symm)
        rw [this]; exact hn, rfl, hb1⟩
      rw [zero_val] at fin
      have Fin := Lib.hid fin
      have hd := decide_eq_true hn
      have Hn := Lib.hid hn
      generalize c.mv = mv at *
      clear fin h h1 hk c0 c2 c3 f0 f3 hb1 hn i0 i1 i2 i3 i4 i6 i7 i8 i10 if10
      subst hW1
      go_enter Try.func61, Try.ntmps61
      go_wp2
      exact bodyPost_ret (v := .tuple #[.agg #[.int .i64 0, .string ⟨#[]⟩, .int .u16 0, .int .u16 0, .slice none 0 0, .int .i64 0, .int .i64 0, .int .i64 0, .int .i64 0], .bool false]) (by simp [results, Try.results61, go_sem]) rfl Fin.out
    · have hd := decide_eq_false hn
      obtain ⟨j0, j1, j2, j3, j4, j5, j6, j7, j8, j10, jf10⟩ := h.itemCells hx
      have d3 := h.cells.1.2.2.2
      have g3 := h.cells.2 3
      have hw64 : wrap64 (c.uses + 1) = c.uses + 1 := by unfold wrap64; omega
      have Hn := Lib.hid hn
      have H := Lib.hid h
      have H1 := Lib.hid h1
      have Hx := Lib.hid hx
      have Hb1 := Lib.hid hb1
      have Hk := Lib.hid hk
      generalize hmv : c.mv = mv at *
      clear h h1 hk c0 c2 f0 hb1 hn hx hmv
      subst hW1
      go_enter Try.func61, Try.ntmps61
      go_wp2_with fail
      clear c3 f3 i0 i1 i2 i3 i4 i5 i6 i7 i8 i10 if10 j0 j1 j2 j3 j4 j5 j6 j7 j8 j10 jf10 d3 g3 hl
      have hU := fun W2 => use_world (W2 := W2) (o := .cells #[.int .i64 0, .string ⟨#[]⟩, .int .u16 0, .int .u16 0, .slice none 0 0, .int .i64 0, .int .i64 0, .int .i64 0, .int .i64 0] 25) H.out Hx.out
      have HU := hU _ rfl
      clear hU
      generalize hW2 : World.alloc _ _ = W2 at HU ⊢
      obtain ⟨u1, u2, u3, u4⟩ := HU
      have hrec : RecsOwn W2 (c.cb + 1) x.rv x.ent.recs := by
        have := u1.recs (useF x.blk (c.uses + 1) x) (List.mem_map.2 ⟨x, Hx.out, rfl⟩)
        rw [useF_rv, useF_ent] at this; exact this
      have hcp := copied_any x.ent x.rv W2 hrec.at (by have := recs_few (H.out.oks x Hx.out).2; omega)
      unfold Ent.val at hcp
      refine hcp.mono ?_
      rintro r w3 ⟨rv', rfl, ho, h3⟩
      have hz3 := h3.size
      have hb3 : w3.heap[w.heap.size]? = some (.cells #[.int .i64 0, .string ⟨#[]⟩, .int .u16 0, .int .u16 0, .slice none 0 0, .int .i64 0, .int .i64 0, .int .i64 0, .int .i64 0] 25 (0, 0)) := (h3.block _ (by omega)).trans u4
      obtain ⟨A, cap, rfl⟩ := ho.shape
      have z0 : w3.cell? ⟨w.heap.size, 0, none⟩ = some (.int .i64 0) := by simp [World.cell?, hb3]
      have z1 : w3.cell? ⟨w.heap.size, 1, none⟩ = some (.string ⟨#[]⟩) := by simp [World.cell?, hb3]
      have z2 : w3.cell? ⟨w.heap.size, 2, none⟩ = some (.int .u16 0) := by simp [World.cell?, hb3]
      have z3 : w3.cell? ⟨w.heap.size, 3, none⟩ = some (.int .u16 0) := by simp [World.cell?, hb3]
      have z4 : w3.cell? ⟨w.heap.size, 4, none⟩ = some (.slice none 0 0) := by simp [World.cell?, hb3]
      have z5 : w3.cell? ⟨w.heap.size, 5, none⟩ = some (.int .i64 0) := by simp [World.cell?, hb3]
      have z6 : w3.cell? ⟨w.heap.size, 6, none⟩ = some (.int .i64 0) := by simp [World.cell?, hb3]
      have z7 : w3.cell? ⟨w.heap.size, 7, none⟩ = some (.int .i64 0) := by simp [World.cell?, hb3]
      have z8 : w3.cell? ⟨w.heap.size, 8, none⟩ = some (.int .i64 0) := by simp [World.cell?, hb3]
      have f0 : w3.frozen? ⟨w.heap.size, 0, none⟩ = false := by simp [World.frozen?, hb3]
      have f1 : w3.frozen? ⟨w.heap.size, 1, none⟩ = false := by simp [World.frozen?, hb3]
      have f2 : w3.frozen? ⟨w.heap.size, 2, none⟩ = false := by simp [World.frozen?, hb3]
      have f3 : w3.frozen? ⟨w.heap.size, 3, none⟩ = false := by simp [World.frozen?, hb3]
      have f4 : w3.frozen? ⟨w.heap.size, 4, none⟩ = false := by simp [World.frozen?, hb3]
      have f5 : w3.frozen? ⟨w.heap.size, 5, none⟩ = false := by simp [World.frozen?, hb3]
      have f6 : w3.frozen? ⟨w.heap.size, 6, none⟩ = false := by simp [World.frozen?, hb3]
      have f7 : w3.frozen? ⟨w.heap.size, 7, none⟩ = false := by simp [World.frozen?, hb3]
      have f8 : w3.frozen? ⟨w.heap.size, 8, none⟩ = false := by simp [World.frozen?, hb3]
      have Fin := Lib.hid (fun w4 => tell_fin (w4 := w4) H.out Hx.out u1 u2 u3 h3 ho)
      clear hcp hrec u1 u2 u3 u4 h3 ho hb3 hW2
      go_wp2_with fail
      refine bodyPost_ret (v := .tuple #[.agg #[.int .i64 x.ent.kind, .string (bs x.ent.name), .int .u16 x.ent.t, .int .u16 x.ent.c, .slice A x.ent.recs.length cap, .int .i64 x.ent.til, .int .i64 x.ent.rank, .int .i64 x.ent.epoch, .int .i64 x.ent.source], .bool true]) (by simp [results, Try.results61, go_sem, z0, z1, z2, z3, z4, z5, z6, z7, z8]) rfl ?_
      refine .inr ⟨x, H.out.perm.mem_iff.2 Hx.out, Hk.out, by have := Hn.out; omega, _, rfl, Fin.out _ ?_⟩
      exact (((((((((ModS.refl (fun k => k = w.heap.size) w3).set rfl _).set rfl _).set rfl _).set rfl _).set rfl _).set rfl _).set rfl _).set rfl _).set rfl _
end Go.Proofs.Ytihfapnipifiiaa
