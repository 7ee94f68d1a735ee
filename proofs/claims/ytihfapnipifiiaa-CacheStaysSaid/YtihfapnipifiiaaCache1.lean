/- A cache in memory; the walk of its drop. -/
import Derived.Test.YtihfapnipifiiaaMap
import Derived.Test.YtihfapnipifiiaaCopy
import Derived.Test.YtihfapnipifiiaaPlain1
import Derived.Test.YtihfapnipifiiaaKey2
import Derived.StillTailTactics
namespace Go.Proofs.Ytihfapnipifiiaa
open Go Go.RowKit Go.Shelf

/-- A cache: its block, what is in it, its items as they stand in the heap, and by when they were used. -/
structure Ca where
  cb : Nat
  most : Int
  mv : Value
  sv : Value
  uses : Int
  its : List It
  ord : List It
/-- The blocks that are a cache's own. -/
def Ca.own (c : Ca) (k : Nat) : Prop := k = c.cb ∨ c.mv = .map (some k) ∨ c.sv.ownBlock = some k ∨ k ∈ c.its.map It.blk ∨ ∃ x ∈ c.its, x.rv.ownBlock = some k
/-- A cache in memory. -/
structure CaAt (W : World) (c : Ca) : Prop where
  block : W.heap[c.cb]? = some (.cells #[.int .i64 c.most, c.mv, c.sv, .int .i64 c.uses] 91 (0, 0))
  map : (c.mv = .map none ∧ c.its = []) ∨ ∃ mb, c.mv = .map (some mb) ∧ c.cb < mb ∧ MapRow W mb c.its
  stale : StaleV W (c.cb + 1) c.sv c.its
  items : ∀ x ∈ c.its, c.cb < x.blk
  recs : ∀ x ∈ c.its, RecsOwn W (c.cb + 1) x.rv x.ent.recs
  heap : HeapN c.its c.its.length
  perm : c.ord.Perm c.its
  sorted : c.ord.Pairwise fun x y => x.used < y.used
  used : ∀ x ∈ c.its, x.used ≤ c.uses
  oks : ∀ x ∈ c.its, EntIn x.ent ∧ cchk x.ent = 0
  few : c.its.length ≤ 1000000

theorem CaAt.cells {W : World} {c : Ca} (h : CaAt W c) :
    (W.cell? ⟨c.cb, 0, none⟩ = some (.int .i64 c.most) ∧ W.cell? ⟨c.cb, 1, none⟩ = some c.mv ∧ W.cell? ⟨c.cb, 2, none⟩ = some c.sv ∧ W.cell? ⟨c.cb, 3, none⟩ = some (.int .i64 c.uses)) ∧ ∀ o, W.frozen? ⟨c.cb, o, none⟩ = false := by
  have hb := h.block
  exact ⟨⟨by simp [World.cell?, hb], by simp [World.cell?, hb], by simp [World.cell?, hb], by simp [World.cell?, hb]⟩, fun o => by simp [World.frozen?, hb]⟩
theorem CaAt.lt {W : World} {c : Ca} (h : CaAt W c) : c.cb < W.heap.size := (Array.getElem?_eq_some_iff.1 h.block).1
theorem CaAt.item {W : World} {c : Ca} (h : CaAt W c) {x : It} (hx : x ∈ c.its) : ∃ i, c.its[i]? = some x ∧ i < c.its.length ∧ ItemAt W x i := by
  obtain ⟨i, hi, rfl⟩ := List.getElem_of_mem hx
  have : c.its[i]? = some c.its[i] := List.getElem?_eq_getElem hi
  exact ⟨i, this, hi, h.stale.items.1 i _ this⟩
/-- Each of the own blocks lies in memory. -/
theorem CaAt.own_lt {W : World} {c : Ca} (h : CaAt W c) {k : Nat} (hk : c.own k) : c.cb ≤ k ∧ k < W.heap.size := by
  rcases hk with rfl | hk | hk | hk | ⟨x, hx, hk⟩
  · exact ⟨Nat.le_refl _, h.lt⟩
  · rcases h.map with ⟨h1, _⟩ | ⟨mb, h1, hlt, es, clk, hb, _⟩
    · rw [h1] at hk; cases hk
    · rw [h1] at hk
      cases hk
      exact ⟨Nat.le_of_lt hlt, (Array.getElem?_eq_some_iff.1 hb).1⟩
  · obtain ⟨h1, cur, h2⟩ := own_cells h.stale.own k hk
    exact ⟨by omega, (Array.getElem?_eq_some_iff.1 h2).1⟩
  · obtain ⟨x, hx, rfl⟩ := List.mem_map.1 hk
    obtain ⟨i, _, _, hi⟩ := h.item hx
    exact ⟨Nat.le_of_lt (h.items x hx), hi.lt⟩
  · obtain ⟨h1, cur, h2⟩ := own_cells (h.recs x hx) k hk
    exact ⟨by omega, (Array.getElem?_eq_some_iff.1 h2).1⟩
/-- The cache lies still where its blocks do. -/
theorem StaleV.same {W W' : World} {base : Nat} {v : Value} {its : List It} (h : StaleV W base v its) (e : ∀ k, v.ownBlock = some k ∨ k ∈ its.map It.blk → W'.heap[k]? = W.heap[k]?) : StaleV W' base v its := by
  rcases h with h | ⟨g, cap, rfl, hb, h⟩
  · exact .inl h
  · exact .inr ⟨g, cap, rfl, hb, h.same (fun k hk => e k (hk.imp (fun q => by rw [q]; rfl) id))⟩
theorem CaAt.same {W W' : World} {c : Ca} (h : CaAt W c) (e : ∀ k, c.own k → W'.heap[k]? = W.heap[k]?) : CaAt W' c where
  block := (e _ (.inl rfl)).trans h.block
  map := h.map.imp id (fun ⟨mb, h1, h2, h3⟩ => ⟨mb, h1, h2, h3.same (e _ (.inr (.inl h1)))⟩)
  stale := h.stale.same (fun k hk => e k (hk.elim (fun q => .inr (.inr (.inl q))) (fun q => .inr (.inr (.inr (.inl q))))))
  items := h.items
  recs := fun x hx => (h.recs x hx).same (fun k _ hk _ => e k (.inr (.inr (.inr (.inr ⟨x, hx, hk⟩)))))
  heap := h.heap
  perm := h.perm
  sorted := h.sorted
  used := h.used
  oks := h.oks
  few := h.few
theorem CaAt.below {W W' : World} {c : Ca} (h : CaAt W c) (hb : Below W.heap.size W W') : CaAt W' c := h.same (fun k hk => hb.block k (h.own_lt hk).2)

/-- A block of records is none of the heap's own. -/
theorem stale_recs {W W' : World} {c : Ca} {base : Nat} {v : Value} {rs : List RRec} (hb : ∃ cs, W.heap[c.cb]? = some (.cells cs 91 (0, 0))) (hs : StaleV W (c.cb + 1) c.sv c.its) (m : ModS (staleS ⟨c.cb, 2, none⟩ c.sv c.its) W W') (h : RecsOwn W base v rs) : RecsOwn W' base v rs := by
  refine h.same (fun k cur hk hc => m.block k (Array.getElem?_eq_some_iff.1 hc).1 ?_)
  rintro (e | e | e)
  · obtain ⟨cs, hb⟩ := hb
    rw [e] at hc
    dsimp only at hc
    rw [hb] at hc; cases hc
  · obtain ⟨_, cs, h2⟩ := own_cells hs.own k e
    rw [h2] at hc; cases hc
  · obtain ⟨y, hy, rfl⟩ := List.mem_map.1 e
    obtain ⟨i, hi, rfl⟩ := List.getElem_of_mem hy
    have h2 := hs.items.1 i _ (List.getElem?_eq_getElem hi)
    unfold ItemAt at h2
    rw [h2] at hc; cases hc
theorem stale_map {W W' : World} {c : Ca} {mb : Nat} {its : List It} (hb : ∃ cs, W.heap[c.cb]? = some (.cells cs 91 (0, 0))) (hs : StaleV W (c.cb + 1) c.sv c.its) (m : ModS (staleS ⟨c.cb, 2, none⟩ c.sv c.its) W W') (h : MapRow W mb its) : MapRow W' mb its := by
  refine h.same ?_
  obtain ⟨es, clk, hc, _⟩ := h
  refine m.block mb (Array.getElem?_eq_some_iff.1 hc).1 ?_
  rintro (e | e | e)
  · obtain ⟨cs, hb⟩ := hb
    rw [e] at hc
    dsimp only at hc
    rw [hb] at hc; cases hc
  · obtain ⟨_, cs, h2⟩ := own_cells hs.own mb e
    rw [h2] at hc; cases hc
  · obtain ⟨y, hy, e⟩ := List.mem_map.1 e
    obtain ⟨i, hi, rfl⟩ := List.getElem_of_mem hy
    have h2 := hs.items.1 i _ (List.getElem?_eq_getElem hi)
    unfold ItemAt at h2
    rw [e, hc] at h2; cases h2
theorem filter_blk {x : It} {l : List It} (h : x.blk ∉ l.map It.blk) : l.filter (fun y => y.blk != x.blk) = l := by
  rw [List.filter_eq_self]
  intro y hy
  rw [bne_iff_ne]
  exact fun e => h (List.mem_map.2 ⟨y, hy, e⟩)
/-- Behind drop. -/
theorem drop_fin {c : Ca} {x : It} {i mb : Nat} {v' : Value} {w w2 w3 : World} (h : CaAt w c) (hi : c.its[i]? = some x) (hmv : c.mv = .map (some mb)) (hmlt : c.cb < mb) (hperm : c.its.Perm (x :: c.its.eraseIdx i))
    (hm2 : MapRow w2 mb (c.its.eraseIdx i)) (hs2 : StaleV w2 (c.cb + 1) c.sv c.its) (hmod2 : ModS c.own w w2) (hr2 : ∀ y ∈ c.its, RecsOwn w2 (c.cb + 1) y.rv y.ent.recs) (hc2 : w2.heap[c.cb]? = w.heap[c.cb]?)
    (hst : Stale w3 (c.cb + 1) ⟨c.cb, 2, none⟩ v' (remL c.its i).dropLast) (hmod3 : ModS (staleS ⟨c.cb, 2, none⟩ c.sv c.its) w2 w3) (hown : v'.ownBlock = c.sv.ownBlock) (sb : SaBlk w2 w3 ⟨c.cb, 2, none⟩ v') :
    ∃ c', CaAt w3 c' ∧ c'.cb = c.cb ∧ c'.most = c.most ∧ c'.uses = c.uses ∧ c'.ord = c.ord.filter (fun y => y.blk != x.blk) ∧ ModS c.own w w3 ∧ (∀ k, c'.own k → c.own k) := by
  obtain ⟨l, hl, hheap⟩ := rem_heap hi h.heap
  rw [hl, List.dropLast_concat] at hst
  have hp : c.its.Perm (x :: l) := ((remL_perm c.its i).symm.trans (List.Perm.of_eq hl)).trans (List.perm_append_singleton x l)
  have hsub : ∀ y ∈ l, y ∈ c.its := fun y hy => hp.mem_iff.2 (List.mem_cons_of_mem _ hy)
  have hlp : (c.its.eraseIdx i).Perm l := (List.perm_cons x).1 (hperm.symm.trans hp)
  have hnd : x.blk ∉ l.map It.blk := by
    have h1 := (hp.map It.blk).nodup_iff.1 h.stale.items.2
    rw [List.map_cons, List.nodup_cons] at h1
    exact h1.1
  have hb2 : ∃ cs, w2.heap[c.cb]? = some (.cells cs 91 (0, 0)) := ⟨_, hc2.trans h.block⟩
  refine ⟨{ c with sv := v', its := l, ord := c.ord.filter (fun y => y.blk != x.blk) }, ?_, rfl, rfl, rfl, rfl, hmod2.trans (hmod3.mono ?_), ?_⟩
  · refine { block := ?_, map := .inr ⟨mb, hmv, hmlt, stale_map hb2 hs2 hmod3 (hm2.perm hlp)⟩, stale := hst.st, items := fun y hy => h.items y (hsub y hy), recs := fun y hy => stale_recs hb2 hs2 hmod3 (hr2 y (hsub y hy)), heap := hheap, perm := ?_, sorted := h.sorted.filter _, used := fun y hy => h.used y (hsub y hy), oks := fun y hy => h.oks y (hsub y hy), few := ?_ }
    · refine Eq.trans sb ?_
      simp [World.setCell, Array.getElem?_modify, hc2, h.block]
    · have h1 := ((h.perm.trans hp).filter (fun y => y.blk != x.blk))
      rw [List.filter_cons_of_neg (by simp), filter_blk hnd] at h1
      exact h1
    · have h1 := hp.length_eq
      rw [List.length_cons] at h1
      have h2 := h.few
      show l.length ≤ 1000000
      omega
  · rintro k (e | e | e)
    · exact .inl e
    · exact .inr (.inr (.inl e))
    · exact .inr (.inr (.inr (.inl e)))
  · rintro k (e | e | e | e | ⟨y, hy, e⟩)
    · exact .inl e
    · exact .inr (.inl e)
    · exact .inr (.inr (.inl (hown ▸ e)))
    · obtain ⟨y, hy, rfl⟩ := List.mem_map.1 e
      exact .inr (.inr (.inr (.inl (List.mem_map.2 ⟨y, hsub y hy, rfl⟩))))
    · exact .inr (.inr (.inr (.inr ⟨y, hsub y hy, e⟩)))

set_option maxRecDepth 100000 in
theorem drop_any (c : Ca) (x : It) (w : World) (h : CaAt w c) (hx : x ∈ c.its) :
    Calls Try.prog 56 #[.pointer (some ⟨c.cb, 0, none⟩), x.ptr] w fun e w' => e = .returned (.tuple #[]) ∧
      ∃ c', CaAt w' c' ∧ c'.cb = c.cb ∧ c'.most = c.most ∧ c'.uses = c.uses ∧ c'.ord = c.ord.filter (fun y => y.blk != x.blk) ∧ ModS c.own w w' ∧ (∀ k, c'.own k → c.own k) := by
  obtain ⟨⟨c0, c1, c2, c3⟩, f0⟩ := h.cells
  obtain ⟨i, hi, hil, hxi⟩ := h.item hx
  obtain ⟨mb, hmv, hmlt, hmap⟩ : ∃ mb, c.mv = .map (some mb) ∧ c.cb < mb ∧ MapRow w mb c.its := by
    rcases h.map with ⟨_, e⟩ | h
    · rw [e] at hx; cases hx
    · exact h
  have hperm : c.its.Perm (x :: c.its.eraseIdx i) := by
    have hg : c.its[i]'hil = x := by rw [List.getElem?_eq_getElem hil] at hi; exact Option.some.inj hi
    rw [← hg, List.eraseIdx_eq_take_drop_succ]
    refine List.Perm.trans (List.Perm.of_eq ?_) List.perm_middle
    rw [← List.drop_eq_getElem_cons, List.take_append_drop]
  obtain ⟨o, hdel, hmap2⟩ := map_del (W := w.drew) ((hmap.perm hperm).same rfl)
  rw [hmv] at c1
  have k9 : w.cell? ⟨x.blk, 9, none⟩ = some (.string (bs x.ent.key)) := hxi.cell (o := 9) rfl
  obtain ⟨o0, ho0⟩ : ∃ o0, w.drew.heap[mb]? = some o0 := by
    obtain ⟨es, clk, hb, _⟩ := hmap
    exact ⟨_, hb⟩
  have hmb : ∀ k, k ≠ mb → (putObj w.drew mb o).heap[k]? = w.heap[k]? := fun k hk => putObj_far ho0 k hk
  have hfar : ∀ k, k = c.cb ∨ c.sv.ownBlock = some k ∨ k ∈ c.its.map It.blk ∨ (∃ x ∈ c.its, x.rv.ownBlock = some k) → k ≠ mb := by
    rintro k hk rfl
    obtain ⟨es, clk, hb, _⟩ := hmap
    rcases hk with rfl | hk | hk | ⟨y, hy, hk⟩
    · omega
    · obtain ⟨_, cur, h2⟩ := own_cells h.stale.own k hk
      rw [h2] at hb; cases hb
    · obtain ⟨y, hy, rfl⟩ := List.mem_map.1 hk
      obtain ⟨_, _, _, h2⟩ := h.item hy
      unfold ItemAt at h2; rw [h2] at hb; cases hb
    · obtain ⟨_, cur, h2⟩ := own_cells (h.recs y hy) k hk
      rw [h2] at hb; cases hb
  have h2 : ∀ w2, w2 = putObj w.drew mb o → MapRow w2 mb (c.its.eraseIdx i) ∧ Stale w2 (c.cb + 1) ⟨c.cb, 2, none⟩ c.sv c.its ∧ ItemAt w2 x i ∧ ModS c.own w w2 ∧ (∀ y ∈ c.its, RecsOwn w2 (c.cb + 1) y.rv y.ent.recs) ∧ w2.heap[c.cb]? = w.heap[c.cb]? := by
    rintro w2 rfl
    refine ⟨hmap2, ⟨?_, ?_, ?_, ?_, by show c.cb < c.cb + 1; omega⟩, ?_, ?_, ?_, hmb _ (hfar _ (.inl rfl))⟩
    · exact (World.cell?_of_block (hmb _ (hfar _ (.inl rfl)))).trans c2
    · exact (World.frozen?_of_block (hmb _ (hfar _ (.inl rfl)))).trans (f0 2)
    · exact h.stale.same (fun k hk => hmb k (hfar k (hk.elim (fun q => .inr (.inl q)) (fun q => .inr (.inr (.inl q))))))
    · intro hc
      obtain ⟨y, hy, e⟩ := List.mem_map.1 hc
      have := h.items y hy
      rw [e] at this; exact absurd this (Nat.lt_irrefl _)
    · exact hxi.same (hmb _ (hfar _ (.inr (.inr (.inl (List.mem_map.2 ⟨x, hx, rfl⟩))))))
    · exact ((ModS.refl c.own w).drew).putObj mb o (.inr (.inl hmv))
    · exact fun y hy => (h.recs y hy).same (fun k _ hk _ => hmb k (hfar k (.inr (.inr (.inr ⟨y, hy, hk⟩)))))
  have H := Lib.hid h
  have H2 := Lib.hid h2
  have Hmv := Lib.hid hmv
  have Hperm := Lib.hid hperm
  have Hi := Lib.hid hi
  clear h hmap hmap2 hfar hmb h2 hmv hperm hi hxi ho0
  unfold It.ptr
  go_enter Try.func56, Try.ntmps56
  go_wp2_with fail
  go_still_tail 8, (by kernel_rfl)
  change wpList _ _ _ _ _ w.drew
  go_wp2_with fail
  clear hdel c0 c1 c2 c3 f0 k9
  have H2' := H2.out _ rfl
  clear H2
  generalize putObj w.drew mb o = w2 at *
  obtain ⟨hm2, hs2, hx2, hmod2, hr2, hc2⟩ := H2'
  have k11 : w2.cell? ⟨x.blk, 11, none⟩ = some (.int .i64 i) := hx2.cell (o := 11) rfl
  have Hm2 := Lib.hid hm2
  have Hs2 := Lib.hid hs2
  have Hmod2 := Lib.hid hmod2
  have Hr2 := Lib.hid hr2
  have Hc2 := Lib.hid hc2
  clear hm2 hs2 hmod2 hr2 hc2 hx2
  go_still_tail 8, (by kernel_rfl)
  change wpList _ _ _ _ _ w2.drew
  go_wp2_with fail
  have hl : c.its.length ≤ 1099511627776 := by have := H.out.few; omega
  refine (heapRemove_any (c.cb + 1) c.sv i ⟨c.cb, 2, none⟩ c.its w2.drew ⟨Hs2.out.cell, Hs2.out.free, Hs2.out.st.same (fun _ _ => rfl), Hs2.out.apart, Hs2.out.low⟩ hil hl).mono ?_
  rintro r w3 ⟨⟨u, rfl⟩, v', hst, hmod3, hown, sb⟩
  have fin := drop_fin (w2 := w2) H.out Hi.out Hmv.out hmlt Hperm.out Hm2.out Hs2.out.st Hmod2.out Hr2.out Hc2.out hst ((ModS.refl _ w2).drew.trans hmod3) hown sb
  have Fin := Lib.hid fin
  clear fin hst hmod3 hown sb
  go_wp2
  go_end0
  exact ⟨rfl, Fin.out⟩
end Go.Proofs.Ytihfapnipifiiaa
