/- A cache in memory; the walk of its drop. The walks of cache.New, Len, byUse, cmp.Compare, slices.MinFunc. The walk of slices.MinFunc over a cache's items. The walks of cache.Expire and Next. A use of an item; the walks of cache.tell, Get, Name. The walks of cache.tell, Get, Name. The walks of cache.Get and Name. The walks of cache.Get and Name of no cache. -/
import Derived.Test.YtihfapnipifiiaaMap
import Derived.Test.YtihfapnipifiiaaCheck
import Derived.StillTailTactics
set_option linter.unusedVariables false
set_option linter.unusedSimpArgs false
/- A cache in memory; the walk of its drop. -/
namespace Go.Proofs.Ytihfapnipifiiaa
open Go Go.RowKit Go.Shelf

/-- A cache: its block, what is in it, its items as they stand in the heap, and by when they were used. -/
structure Ca where
  cb : Nat
  most : Int
  mv : Value
  sv : Value
  uses : Int
  its : List It
  ord : List It
/-- The blocks that are a cache's own. -/
def Ca.own (c : Ca) (k : Nat) : Prop := k = c.cb ∨ c.mv = .map (some k) ∨ c.sv.ownBlock = some k ∨ k ∈ c.its.map It.blk ∨ ∃ x ∈ c.its, x.rv.ownBlock = some k
/-- A cache in memory. -/
structure CaAt (W : World) (c : Ca) : Prop where
  block : W.heap[c.cb]? = some (.cells #[.int .i64 c.most, c.mv, c.sv, .int .i64 c.uses] 91 (0, 0))
  map : (c.mv = .map none ∧ c.its = []) ∨ ∃ mb, c.mv = .map (some mb) ∧ c.cb < mb ∧ MapRow W mb c.its
  stale : StaleV W (c.cb + 1) c.sv c.its
  items : ∀ x ∈ c.its, c.cb < x.blk
  recs : ∀ x ∈ c.its, RecsOwn W (c.cb + 1) x.rv x.ent.recs
  heap : HeapN c.its c.its.length
  perm : c.ord.Perm c.its
  sorted : c.ord.Pairwise fun x y => x.used < y.used
  used : ∀ x ∈ c.its, x.used ≤ c.uses
  oks : ∀ x ∈ c.its, EntIn x.ent ∧ cchk x.ent = 0
  few : c.its.length ≤ 1000000

theorem CaAt.cells {W : World} {c : Ca} (h : CaAt W c) :
    (W.cell? ⟨c.cb, 0, none⟩ = some (.int .i64 c.most) ∧ W.cell? ⟨c.cb, 1, none⟩ = some c.mv ∧ W.cell? ⟨c.cb, 2, none⟩ = some c.sv ∧ W.cell? ⟨c.cb, 3, none⟩ = some (.int .i64 c.uses)) ∧ ∀ o, W.frozen? ⟨c.cb, o, none⟩ = false := by
  have hb := h.block
  exact ⟨⟨by simp [World.cell?, hb], by simp [World.cell?, hb], by simp [World.cell?, hb], by simp [World.cell?, hb]⟩, fun o => by simp [World.frozen?, hb]⟩
theorem CaAt.lt {W : World} {c : Ca} (h : CaAt W c) : c.cb < W.heap.size := (Array.getElem?_eq_some_iff.1 h.block).1
theorem CaAt.item {W : World} {c : Ca} (h : CaAt W c) {x : It} (hx : x ∈ c.its) : ∃ i, c.its[i]? = some x ∧ i < c.its.length ∧ ItemAt W x i := by
  obtain ⟨i, hi, rfl⟩ := List.getElem_of_mem hx
  have : c.its[i]? = some c.its[i] := List.getElem?_eq_getElem hi
  exact ⟨i, this, hi, h.stale.items.1 i _ this⟩
/-- Each of the own blocks lies in memory. -/
theorem CaAt.own_lt {W : World} {c : Ca} (h : CaAt W c) {k : Nat} (hk : c.own k) : c.cb ≤ k ∧ k < W.heap.size := by
  rcases hk with rfl | hk | hk | hk | ⟨x, hx, hk⟩
  · exact ⟨Nat.le_refl _, h.lt⟩
  · rcases h.map with ⟨h1, _⟩ | ⟨mb, h1, hlt, es, clk, hb, _⟩
    · rw [h1] at hk; cases hk
    · rw [h1] at hk
      cases hk
      exact ⟨Nat.le_of_lt hlt, (Array.getElem?_eq_some_iff.1 hb).1⟩
  · obtain ⟨h1, cur, h2⟩ := own_cells h.stale.own k hk
    exact ⟨by omega, (Array.getElem?_eq_some_iff.1 h2).1⟩
  · obtain ⟨x, hx, rfl⟩ := List.mem_map.1 hk
    obtain ⟨i, _, _, hi⟩ := h.item hx
    exact ⟨Nat.le_of_lt (h.items x hx), hi.lt⟩
  · obtain ⟨h1, cur, h2⟩ := own_cells (h.recs x hx) k hk
    exact ⟨by omega, (Array.getElem?_eq_some_iff.1 h2).1⟩
/-- The cache lies still where its blocks do. -/
theorem StaleV.same {W W' : World} {base : Nat} {v : Value} {its : List It} (h : StaleV W base v its) (e : ∀ k, v.ownBlock = some k ∨ k ∈ its.map It.blk → W'.heap[k]? = W.heap[k]?) : StaleV W' base v its := by
  rcases h with h | ⟨g, cap, rfl, hb, h⟩
  · exact .inl h
  · exact .inr ⟨g, cap, rfl, hb, h.same (fun k hk => e k (hk.imp (fun q => by rw [q]; rfl) id))⟩
theorem CaAt.same {W W' : World} {c : Ca} (h : CaAt W c) (e : ∀ k, c.own k → W'.heap[k]? = W.heap[k]?) : CaAt W' c where
  block := (e _ (.inl rfl)).trans h.block
  map := h.map.imp id (fun ⟨mb, h1, h2, h3⟩ => ⟨mb, h1, h2, h3.same (e _ (.inr (.inl h1)))⟩)
  stale := h.stale.same (fun k hk => e k (hk.elim (fun q => .inr (.inr (.inl q))) (fun q => .inr (.inr (.inr (.inl q))))))
  items := h.items
  recs := fun x hx => (h.recs x hx).same (fun k _ hk _ => e k (.inr (.inr (.inr (.inr ⟨x, hx, hk⟩)))))
  heap := h.heap
  perm := h.perm
  sorted := h.sorted
  used := h.used
  oks := h.oks
  few := h.few
theorem CaAt.below {W W' : World} {c : Ca} (h : CaAt W c) (hb : Below W.heap.size W W') : CaAt W' c := h.same (fun k hk => hb.block k (h.own_lt hk).2)

/-- A block of records is none of the heap's own. -/
theorem stale_recs {W W' : World} {c : Ca} {base : Nat} {v : Value} {rs : List RRec} (hb : ∃ cs, W.heap[c.cb]? = some (.cells cs 91 (0, 0))) (hs : StaleV W (c.cb + 1) c.sv c.its) (m : ModS (staleS ⟨c.cb, 2, none⟩ c.sv c.its) W W') (h : RecsOwn W base v rs) : RecsOwn W' base v rs := by
  refine h.same (fun k cur hk hc => m.block k (Array.getElem?_eq_some_iff.1 hc).1 ?_)
  rintro (e | e | e)
  · obtain ⟨cs, hb⟩ := hb
    rw [e] at hc
    dsimp only at hc
    rw [hb] at hc; cases hc
  · obtain ⟨_, cs, h2⟩ := own_cells hs.own k e
    rw [h2] at hc; cases hc
  · obtain ⟨y, hy, rfl⟩ := List.mem_map.1 e
    obtain ⟨i, hi, rfl⟩ := List.getElem_of_mem hy
    have h2 := hs.items.1 i _ (List.getElem?_eq_getElem hi)
    unfold ItemAt at h2
    rw [h2] at hc; cases hc
theorem stale_map {W W' : World} {c : Ca} {mb : Nat} {its : List It} (hb : ∃ cs, W.heap[c.cb]? = some (.cells cs 91 (0, 0))) (hs : StaleV W (c.cb + 1) c.sv c.its) (m : ModS (staleS ⟨c.cb, 2, none⟩ c.sv c.its) W W') (h : MapRow W mb its) : MapRow W' mb its := by
  refine h.same ?_
  obtain ⟨es, clk, hc, _⟩ := h
  refine m.block mb (Array.getElem?_eq_some_iff.1 hc).1 ?_
  rintro (e | e | e)
  · obtain ⟨cs, hb⟩ := hb
    rw [e] at hc
    dsimp only at hc
    rw [hb] at hc; cases hc
  · obtain ⟨_, cs, h2⟩ := own_cells hs.own mb e
    rw [h2] at hc; cases hc
  · obtain ⟨y, hy, e⟩ := List.mem_map.1 e
    obtain ⟨i, hi, rfl⟩ := List.getElem_of_mem hy
    have h2 := hs.items.1 i _ (List.getElem?_eq_getElem hi)
    unfold ItemAt at h2
    rw [e, hc] at h2; cases h2
theorem filter_blk {x : It} {l : List It} (h : x.blk ∉ l.map It.blk) : l.filter (fun y => y.blk != x.blk) = l := by
  rw [List.filter_eq_self]
  intro y hy
  rw [bne_iff_ne]
  exact fun e => h (List.mem_map.2 ⟨y, hy, e⟩)
/-- Behind drop. -/
theorem drop_fin {c : Ca} {x : It} {i mb : Nat} {v' : Value} {w w2 w3 : World} (h : CaAt w c) (hi : c.its[i]? = some x) (hmv : c.mv = .map (some mb)) (hmlt : c.cb < mb) (hperm : c.its.Perm (x :: c.its.eraseIdx i))
    (hm2 : MapRow w2 mb (c.its.eraseIdx i)) (hs2 : StaleV w2 (c.cb + 1) c.sv c.its) (hmod2 : ModS c.own w w2) (hr2 : ∀ y ∈ c.its, RecsOwn w2 (c.cb + 1) y.rv y.ent.recs) (hc2 : w2.heap[c.cb]? = w.heap[c.cb]?)
    (hst : Stale w3 (c.cb + 1) ⟨c.cb, 2, none⟩ v' (remL c.its i).dropLast) (hmod3 : ModS (staleS ⟨c.cb, 2, none⟩ c.sv c.its) w2 w3) (hown : v'.ownBlock = c.sv.ownBlock) (sb : SaBlk w2 w3 ⟨c.cb, 2, none⟩ v') :
    ∃ c', CaAt w3 c' ∧ c'.cb = c.cb ∧ c'.most = c.most ∧ c'.uses = c.uses ∧ c'.ord = c.ord.filter (fun y => y.blk != x.blk) ∧ ModS c.own w w3 ∧ (∀ k, c'.own k → c.own k) := by
  obtain ⟨l, hl, hheap⟩ := rem_heap hi h.heap
  rw [hl, List.dropLast_concat] at hst
  have hp : c.its.Perm (x :: l) := ((remL_perm c.its i).symm.trans (List.Perm.of_eq hl)).trans (List.perm_append_singleton x l)
  have hsub : ∀ y ∈ l, y ∈ c.its := fun y hy => hp.mem_iff.2 (List.mem_cons_of_mem _ hy)
  have hlp : (c.its.eraseIdx i).Perm l := (List.perm_cons x).1 (hperm.symm.trans hp)
  have hnd : x.blk ∉ l.map It.blk := by
    have h1 := (hp.map It.blk).nodup_iff.1 h.stale.items.2
    rw [List.map_cons, List.nodup_cons] at h1
    exact h1.1
  have hb2 : ∃ cs, w2.heap[c.cb]? = some (.cells cs 91 (0, 0)) := ⟨_, hc2.trans h.block⟩
  refine ⟨{ c with sv := v', its := l, ord := c.ord.filter (fun y => y.blk != x.blk) }, ?_, rfl, rfl, rfl, rfl, hmod2.trans (hmod3.mono ?_), ?_⟩
  · refine { block := ?_, map := .inr ⟨mb, hmv, hmlt, stale_map hb2 hs2 hmod3 (hm2.perm hlp)⟩, stale := hst.st, items := fun y hy => h.items y (hsub y hy), recs := fun y hy => stale_recs hb2 hs2 hmod3 (hr2 y (hsub y hy)), heap := hheap, perm := ?_, sorted := h.sorted.filter _, used := fun y hy => h.used y (hsub y hy), oks := fun y hy => h.oks y (hsub y hy), few := ?_ }
    · refine Eq.trans sb ?_
      simp [World.setCell, Array.getElem?_modify, hc2, h.block]
    · have h1 := ((h.perm.trans hp).filter (fun y => y.blk != x.blk))
      rw [List.filter_cons_of_neg (by simp), filter_blk hnd] at h1
      exact h1
    · have h1 := hp.length_eq
      rw [List.length_cons] at h1
      have h2 := h.few
      show l.length ≤ 1000000
      omega
  · rintro k (e | e | e)
    · exact .inl e
    · exact .inr (.inr (.inl e))
    · exact .inr (.inr (.inr (.inl e)))
  · rintro k (e | e | e | e | ⟨y, hy, e⟩)
    · exact .inl e
    · exact .inr (.inl e)
    · exact .inr (.inr (.inl (hown ▸ e)))
    · obtain ⟨y, hy, rfl⟩ := List.mem_map.1 e
      exact .inr (.inr (.inr (.inl (List.mem_map.2 ⟨y, hsub y hy, rfl⟩))))
    · exact .inr (.inr (.inr (.inr ⟨y, hsub y hy, e⟩)))

set_option maxRecDepth 100000 in
theorem drop_any (c : Ca) (x : It) (w : World) (h : CaAt w c) (hx : x ∈ c.its) :
    Calls Try.prog 56 #[.pointer (some ⟨c.cb, 0, none⟩), x.ptr] w fun e w' => e = .returned (.tuple #[]) ∧
      ∃ c', CaAt w' c' ∧ c'.cb = c.cb ∧ c'.most = c.most ∧ c'.uses = c.uses ∧ c'.ord = c.ord.filter (fun y => y.blk != x.blk) ∧ ModS c.own w w' ∧ (∀ k, c'.own k → c.own k) := by
  obtain ⟨⟨c0, c1, c2, c3⟩, f0⟩ := h.cells
  obtain ⟨i, hi, hil, hxi⟩ := h.item hx
  obtain ⟨mb, hmv, hmlt, hmap⟩ : ∃ mb, c.mv = .map (some mb) ∧ c.cb < mb ∧ MapRow w mb c.its := by
    rcases h.map with ⟨_, e⟩ | h
    · rw [e] at hx; cases hx
    · exact h
  have hperm : c.its.Perm (x :: c.its.eraseIdx i) := by
    have hg : c.its[i]'hil = x := by rw [List.getElem?_eq_getElem hil] at hi; exact Option.some.inj hi
    rw [← hg, List.eraseIdx_eq_take_drop_succ]
    refine List.Perm.trans (List.Perm.of_eq ?_) List.perm_middle
    rw [← List.drop_eq_getElem_cons, List.take_append_drop]
  obtain ⟨o, hdel, hmap2⟩ := map_del (W := w.drew) ((hmap.perm hperm).same rfl)
  rw [hmv] at c1
  have k9 : w.cell? ⟨x.blk, 9, none⟩ = some (.string (bs x.ent.key)) := hxi.cell (o := 9) rfl
  obtain ⟨o0, ho0⟩ : ∃ o0, w.drew.heap[mb]? = some o0 := by
    obtain ⟨es, clk, hb, _⟩ := hmap
    exact ⟨_, hb⟩
  have hmb : ∀ k, k ≠ mb → (putObj w.drew mb o).heap[k]? = w.heap[k]? := fun k hk => putObj_far ho0 k hk
  have hfar : ∀ k, k = c.cb ∨ c.sv.ownBlock = some k ∨ k ∈ c.its.map It.blk ∨ (∃ x ∈ c.its, x.rv.ownBlock = some k) → k ≠ mb := by
    rintro k hk rfl
    obtain ⟨es, clk, hb, _⟩ := hmap
    rcases hk with rfl | hk | hk | ⟨y, hy, hk⟩
    · omega
    · obtain ⟨_, cur, h2⟩ := own_cells h.stale.own k hk
      rw [h2] at hb; cases hb
    · obtain ⟨y, hy, rfl⟩ := List.mem_map.1 hk
      obtain ⟨_, _, _, h2⟩ := h.item hy
      unfold ItemAt at h2; rw [h2] at hb; cases hb
    · obtain ⟨_, cur, h2⟩ := own_cells (h.recs y hy) k hk
      rw [h2] at hb; cases hb
  have h2 : ∀ w2, w2 = putObj w.drew mb o → MapRow w2 mb (c.its.eraseIdx i) ∧ Stale w2 (c.cb + 1) ⟨c.cb, 2, none⟩ c.sv c.its ∧ ItemAt w2 x i ∧ ModS c.own w w2 ∧ (∀ y ∈ c.its, RecsOwn w2 (c.cb + 1) y.rv y.ent.recs) ∧ w2.heap[c.cb]? = w.heap[c.cb]? := by
    rintro w2 rfl
    refine ⟨hmap2, ⟨?_, ?_, ?_, ?_, by show c.cb < c.cb + 1; omega⟩, ?_, ?_, ?_, hmb _ (hfar _ (.inl rfl))⟩
    · exact (World.cell?_of_block (hmb _ (hfar _ (.inl rfl)))).trans c2
    · exact (World.frozen?_of_block (hmb _ (hfar _ (.inl rfl)))).trans (f0 2)
    · exact h.stale.same (fun k hk => hmb k (hfar k (hk.elim (fun q => .inr (.inl q)) (fun q => .inr (.inr (.inl q))))))
    · intro hc
      obtain ⟨y, hy, e⟩ := List.mem_map.1 hc
      have := h.items y hy
      rw [e] at this; exact absurd this (Nat.lt_irrefl _)
    · exact hxi.same (hmb _ (hfar _ (.inr (.inr (.inl (List.mem_map.2 ⟨x, hx, rfl⟩))))))
    · exact ((ModS.refl c.own w).drew).putObj mb o (.inr (.inl hmv))
    · exact fun y hy => (h.recs y hy).same (fun k _ hk _ => hmb k (hfar k (.inr (.inr (.inr ⟨y, hy, hk⟩)))))
  have H := Lib.hid h
  have H2 := Lib.hid h2
  have Hmv := Lib.hid hmv
  have Hperm := Lib.hid hperm
  have Hi := Lib.hid hi
  clear h hmap hmap2 hfar hmb h2 hmv hperm hi hxi ho0
  unfold It.ptr
  go_enter Try.func56, Try.ntmps56
  go_wp2_with fail
  go_still_tail 8, (by kernel_rfl)
  change wpList _ _ _ _ _ w.drew
  go_wp2_with fail
  clear hdel c0 c1 c2 c3 f0 k9
  have H2' := H2.out _ rfl
  clear H2
  generalize putObj w.drew mb o = w2 at *
  obtain ⟨hm2, hs2, hx2, hmod2, hr2, hc2⟩ := H2'
  have k11 : w2.cell? ⟨x.blk, 11, none⟩ = some (.int .i64 i) := hx2.cell (o := 11) rfl
  have Hm2 := Lib.hid hm2
  have Hs2 := Lib.hid hs2
  have Hmod2 := Lib.hid hmod2
  have Hr2 := Lib.hid hr2
  have Hc2 := Lib.hid hc2
  clear hm2 hs2 hmod2 hr2 hc2 hx2
  go_still_tail 8, (by kernel_rfl)
  change wpList _ _ _ _ _ w2.drew
  go_wp2_with fail
  have hl : c.its.length ≤ 1099511627776 := by have := H.out.few; omega
  refine (heapRemove_any (c.cb + 1) c.sv i ⟨c.cb, 2, none⟩ c.its w2.drew ⟨Hs2.out.cell, Hs2.out.free, Hs2.out.st.same (fun _ _ => rfl), Hs2.out.apart, Hs2.out.low⟩ hil hl).mono ?_
  rintro r w3 ⟨⟨u, rfl⟩, v', hst, hmod3, hown, sb⟩
  have fin := drop_fin (w2 := w2) H.out Hi.out Hmv.out hmlt Hperm.out Hm2.out Hs2.out.st Hmod2.out Hr2.out Hc2.out hst ((ModS.refl _ w2).drew.trans hmod3) hown sb
  have Fin := Lib.hid fin
  clear fin hst hmod3 hown sb
  go_wp2
  go_end0
  exact ⟨rfl, Fin.out⟩
end Go.Proofs.Ytihfapnipifiiaa
/- The walks of cache.New, Len, byUse, cmp.Compare, slices.MinFunc. -/
namespace Go.Proofs.Ytihfapnipifiiaa
open Go Go.RowKit Go.Shelf

/-- A cache with nothing in it. -/
def Ca.new (cb : Nat) (most : Int) : Ca := ⟨cb, most, .map none, .slice none 0 0, 0, [], []⟩
theorem Ca.new_at {W : World} {cb : Nat} {most : Int} (h : W.heap[cb]? = some (.cells #[.int .i64 most, .map none, .slice none 0 0, .int .i64 0] 91 (0, 0))) : CaAt W (Ca.new cb most) where
  block := h
  map := .inl ⟨rfl, rfl⟩
  stale := .inl ⟨rfl, rfl⟩
  items := fun x hx => by cases hx
  recs := fun x hx => by cases hx
  heap := fun k _ h => by cases h
  perm := List.Perm.refl _
  sorted := List.Pairwise.nil
  used := fun x hx => by cases hx
  oks := fun x hx => by cases hx
  few := Nat.zero_le _
def capOf (n : Int) : Int := if n < 1 then 1 else if 100000 < n then 100000 else n
theorem new_any (n : Int) (w : World) :
    Calls Try.prog 19 #[.int .i64 n] w fun e w' => e = .returned (.pointer (some ⟨w.heap.size, 0, none⟩)) ∧ CaAt w' (Ca.new w.heap.size (capOf n)) ∧ Below w.heap.size w w' := by
  have fin : ∀ W, W = w.alloc (.cells #[.int .i64 (capOf n), .map none, .slice none 0 0, .int .i64 0] 91) → CaAt W (Ca.new w.heap.size (capOf n)) ∧ Below w.heap.size w W := by
    rintro W rfl
    exact ⟨Ca.new_at (heap_alloc_new w _), (Below.refl _ w).alloc (Nat.le_refl _) _⟩
  by_cases h1 : n < 1
  · have e : capOf n = 1 := by unfold capOf; rw [if_pos h1]
    rw [e] at fin ⊢
    have Fin := Lib.hid fin
    have H1 := Lib.hid h1
    have m1 : max n 1 = 1 := by omega
    clear fin h1
    go_enter Try.func19, Try.ntmps19
    go_wp2
    go_ret
    exact ⟨rfl, Fin.out _ rfl⟩
  · by_cases h2 : 100000 < n
    · have e : capOf n = 100000 := by unfold capOf; rw [if_neg h1, if_pos h2]
      rw [e] at fin ⊢
      have Fin := Lib.hid fin
      have m1 : max n 1 = n := by omega
      have m2 : min n 100000 = 100000 := by omega
      clear fin e
      go_enter Try.func19, Try.ntmps19
      go_wp2
      go_ret
      exact ⟨rfl, Fin.out _ rfl⟩
    · have e : capOf n = n := by unfold capOf; rw [if_neg h1, if_neg h2]
      rw [e] at fin ⊢
      have Fin := Lib.hid fin
      have m1 : max n 1 = n := by omega
      have m2 : min n 100000 = n := by omega
      clear fin e
      go_enter Try.func19, Try.ntmps19
      go_wp2
      go_ret
      exact ⟨rfl, Fin.out _ rfl⟩
theorem len_any (c : Ca) (w : World) (h : CaAt w c) :
    Calls Try.prog 23 #[.pointer (some ⟨c.cb, 0, none⟩)] w fun e w' => e = .returned (.int .i64 c.its.length) ∧ w = w' := by
  obtain ⟨⟨c0, c1, c2, c3⟩, f0⟩ := h.cells
  rcases h.map with ⟨e1, e2⟩ | ⟨mb, e1, _, hm⟩
  · rw [e1] at c1
    rw [e2]
    clear h e1 e2 c0 c2 c3 f0
    go_enter Try.func23, Try.ntmps23
    go_wp2
    go_ret
    exact ⟨rfl, rfl⟩
  · rw [e1] at c1
    have hl := map_len hm 3
    clear h e1 c0 c2 c3 f0 hm
    go_enter Try.func23, Try.ntmps23
    go_wp2
    go_ret
    exact ⟨rfl, rfl⟩
theorem len_nil (w : World) :
    Calls Try.prog 23 #[.pointer none] w fun e w' => e = .returned (.int .i64 0) ∧ w = w' := by
  go_enter Try.func23, Try.ntmps23
  go_wp2
  go_ret
  exact ⟨rfl, rfl⟩

def cmpI (a b : Int) : Int := if a < b then -1 else if b < a then 1 else 0
theorem isnan_any (a : Int) (w : World) :
    Calls Try.prog 115 #[.int .i64 a] w fun e w' => e = .returned (.bool false) ∧ w = w' := by
  have h : (a != a) = false := by simp
  go_enter Try.func115, Try.ntmps115
  go_wp2
  go_ret
  exact ⟨rfl, rfl⟩
theorem compare_any (a b : Int) (w : World) :
    Calls Try.prog 96 #[.int .i64 a, .int .i64 b] w fun e w' => e = .returned (.int .i64 (cmpI a b)) ∧ w = w' := by
  have lt : a < b → cmpI a b = -1 := fun h => by unfold cmpI; rw [if_pos h]
  have gt : b < a → cmpI a b = 1 := fun h => by unfold cmpI; rw [if_neg (by omega), if_pos h]
  have eq : ¬ a < b → ¬ b < a → cmpI a b = 0 := fun h k => by unfold cmpI; rw [if_neg h, if_neg k]
  have Lt := Lib.hid lt
  have Gt := Lib.hid gt
  have Eq := Lib.hid eq
  clear lt gt eq
  go_enter Try.func96, Try.ntmps96
  go_wp2_with fail
  refine (isnan_any _ _).mono ?_
  rintro e w1 ⟨rfl, rfl⟩
  go_wp2_with fail
  refine (isnan_any _ _).mono ?_
  rintro e w1 ⟨rfl, rfl⟩
  by_cases h1 : a < b
  · have q := Lt.out h1
    go_wp2
    go_ret
    exact ⟨by rw [q]; rfl, rfl⟩
  · by_cases h2 : b < a
    · have q := Gt.out (by omega)
      go_wp2
      go_ret
      exact ⟨by rw [q]; rfl, rfl⟩
    · have q := Eq.out (by omega) (by omega)
      go_wp2
      go_ret
      exact ⟨by rw [q]; rfl, rfl⟩
set_option maxRecDepth 100000 in
theorem byUse_any (a b : Nat) (ua ub : Int) (w : World) (ha : w.cell? ⟨a, 10, none⟩ = some (.int .i64 ua)) (hb : w.cell? ⟨b, 10, none⟩ = some (.int .i64 ub)) :
    Calls Try.prog 60 #[.pointer (some ⟨a, 0, none⟩), .pointer (some ⟨b, 0, none⟩)] w fun e w' => e = .returned (.int .i64 (cmpI ua ub)) ∧ Below w.heap.size w w' := by
  go_enter Try.func60, Try.ntmps60
  go_wp2_with fail
  go_still_tail 8, (by kernel_rfl)
  change wpList _ _ _ _ _ w.drew
  go_wp2_with fail
  refine (compare_any _ _ _).mono ?_
  rintro e w1 ⟨rfl, rfl⟩
  go_wp2
  go_ret
  exact ⟨rfl, (Below.refl _ w).drew⟩
end Go.Proofs.Ytihfapnipifiiaa
/- The walk of slices.MinFunc over a cache's items. -/
namespace Go.Proofs.Ytihfapnipifiiaa
open Go Go.RowKit Go.Shelf

set_option maxRecDepth 100000 in
theorem minFunc_any (g cap : Nat) (its : List It) (w : World) (h : HeapRow w g cap its) (h0 : 0 < its.length) (hlen : its.length ≤ 1099511627776) :
    Calls Try.prog 59 #[.slice (some ⟨g, 0, none⟩) its.length cap, .func (.func 60) #[] #[]] w
      fun e w' => (∃ x ∈ its, e = .returned x.ptr ∧ ∀ y ∈ its, x.used ≤ y.used) ∧ Below w.heap.size w w' := by
  obtain ⟨x0, hx0⟩ := get_of_lt h0
  have hr0 : w.cell? ⟨g, 0, none⟩ = some (.pointer (some ⟨x0.blk, 0, none⟩)) := (h.rowAt hx0).1
  have H := Lib.hid h
  have Hx0 := Lib.hid hx0
  clear h hx0
  go_enter Try.func59, Try.ntmps59
  go_wp2
  go_loopw [5, 6] (fun m_ i_ wr => ∃ (k : Nat) (x : It), i_ = .int .i64 k ∧ m_ = x.ptr ∧ 1 ≤ k ∧ k ≤ its.length ∧ x ∈ its ∧ (∀ y ∈ its.take k, x.used ≤ y.used) ∧ Below w.heap.size w wr) (fun _ i_ _ => its.length - (intOf i_).toNat)
  case atStart =>
    refine ⟨1, x0, rfl, rfl, Nat.le_refl _, by omega, List.mem_of_getElem? Hx0.out, ?_, Below.refl _ _⟩
    intro y hy
    have : y = x0 := by
      have h1 := Hx0.out
      cases its with
      | nil => cases h1
      | cons a l =>
        simp at h1 hy
        rw [hy, h1]
    rw [this]; exact Int.le_refl _
  case round =>
    obtain ⟨k, x, rfl, rfl, hk1, hk2, hx, hall, hB⟩ := hrel
    have HB := Lib.hid hB
    have Hx := Lib.hid hx
    have Hall := Lib.hid hall
    have hz := hB.size
    clear hall hB hx
    unfold It.ptr
    by_cases hlt : k < its.length
    · obtain ⟨y, hy⟩ := get_of_lt hlt
      have q0 := (H.out.rowAt hy).1
      have r0 : wr.cell? ⟨g, k, none⟩ = some (.pointer (some ⟨y.blk, 0, none⟩)) := (HB.out.cell (blk_of_cell q0)).trans q0
      obtain ⟨i, hi⟩ := List.getElem?_of_mem Hx.out
      have a0 := H.out.items i x hi
      have a1 := H.out.items k y hy
      have u0 : wr.cell? ⟨x.blk, 10, none⟩ = some (.int .i64 x.used) := (HB.out.cell a0.lt).trans (a0.cell (o := 10) rfl)
      have u1 : wr.cell? ⟨y.blk, 10, none⟩ = some (.int .i64 y.used) := (HB.out.cell a1.lt).trans (a1.cell (o := 10) rfl)
      have Hy := Lib.hid hy
      clear q0 a0 a1 hi hy
      go_wp2_with fail
      refine (byUse_any y.blk x.blk y.used x.used _ u1 u0).mono ?_
      rintro e w2 ⟨rfl, h2⟩
      have HB2 := Lib.hid (HB.out.trans (h2.mono HB.out.size))
      have r2 : w2.cell? ⟨g, k, none⟩ = some (.pointer (some ⟨y.blk, 0, none⟩)) := (h2.cell (blk_of_cell r0)).trans r0
      clear h2
      by_cases hu : y.used < x.used
      · have hc : cmpI y.used x.used = -1 := by unfold cmpI; rw [if_pos hu]
        have Hu := Lib.hid hu
        rw [hc]
        clear hu
        go_wp2
        refine ⟨⟨k + 1, y, rfl, rfl, by omega, by omega, List.mem_of_getElem? Hy.out, ?_, HB2.out⟩, by simp [intOf]; omega⟩
        intro z hz
        rw [List.take_add_one, List.mem_append, Hy.out] at hz
        rcases hz with hz | hz
        · have := Hall.out z hz
          have := Hu.out
          omega
        · have : z = y := by simpa using hz
          rw [this]; exact Int.le_refl _
      · have hc : 0 ≤ cmpI y.used x.used := by unfold cmpI; rw [if_neg hu]; split <;> omega
        have hd : decide (cmpI y.used x.used < 0) = false := decide_eq_false (by omega)
        have Hu := Lib.hid hu
        clear hu
        go_wp2
        refine ⟨⟨k + 1, x, rfl, rfl, by omega, by omega, Hx.out, ?_, HB2.out⟩, by simp [intOf]; omega⟩
        intro z hz
        rw [List.take_add_one, List.mem_append, Hy.out] at hz
        rcases hz with hz | hz
        · exact Hall.out z hz
        · have : z = y := by simpa using hz
          rw [this]
          have := Hu.out
          omega
    · have hke : k = its.length := by omega
      have Hke := Lib.hid hke
      clear hke
      go_wp2
      go_ret
      refine ⟨⟨x, Hx.out, rfl, ?_⟩, HB.out⟩
      intro y hy
      refine Hall.out y ?_
      rw [Hke.out, List.take_length]; exact hy
end Go.Proofs.Ytihfapnipifiiaa
/- The walks of cache.Expire and Next. -/
namespace Go.Proofs.Ytihfapnipifiiaa
open Go Go.RowKit Go.Shelf

/-- What a call that changes a cache keeps. -/
structure After (w : World) (c : Ca) (w' : World) (c' : Ca) : Prop where
  at' : CaAt w' c'
  cb : c'.cb = c.cb
  most : c'.most = c.most
  mod : ModS c.own w w'
  own : ∀ k, c'.own k → c.own k ∨ w.heap.size ≤ k
theorem After.refl {w : World} {c : Ca} (h : CaAt w c) : After w c w c := ⟨h, rfl, rfl, ModS.refl _ _, fun _ hk => .inl hk⟩
theorem After.trans {w w' w'' : World} {c c' c'' : Ca} (h : After w c w' c') (k : After w' c' w'' c'') : After w c w'' c'' where
  at' := k.at'
  cb := k.cb.trans h.cb
  most := k.most.trans h.most
  mod := h.mod.comp k.mod (fun i hi hT => (h.own i hT).elim id (fun e => absurd hi (by omega)))
  own := fun j hj => by
    have hs := h.mod.size
    rcases k.own j hj with h1 | h1
    · exact h.own j h1
    · exact .inr (by omega)
theorem CaAt.nodup {W : World} {c : Ca} (h : CaAt W c) : (c.ord.map It.blk).Nodup := (h.perm.map It.blk).nodup_iff.2 h.stale.items.2
theorem CaAt.len {W : World} {c : Ca} (h : CaAt W c) : c.ord.length = c.its.length := h.perm.length_eq
theorem blk_eq {l : List It} (hn : (l.map It.blk).Nodup) {x y : It} (hx : x ∈ l) (hy : y ∈ l) (e : x.blk = y.blk) : x = y := by
  obtain ⟨i, hi, rfl⟩ := List.getElem_of_mem hx
  obtain ⟨j, hj, rfl⟩ := List.getElem_of_mem hy
  have h1 : (l.map It.blk)[i]'(by simpa using hi) = (l.map It.blk)[j]'(by simpa using hj) := by rw [List.getElem_map, List.getElem_map, e]
  have h2 := (List.getElem_inj hn).1 h1
  subst h2; rfl
theorem drop_len {l : List It} (hn : (l.map It.blk).Nodup) {x : It} (hx : x ∈ l) : (l.filter fun y => y.blk != x.blk).length + 1 = l.length := by
  obtain ⟨s, t, rfl⟩ := List.append_of_mem hx
  rw [List.map_append, List.map_cons, List.nodup_append] at hn
  obtain ⟨h1, h2, h3⟩ := hn
  rw [List.nodup_cons] at h2
  rw [List.filter_append, List.filter_cons_of_neg (by simp), filter_blk h2.1, filter_blk (fun h => h3 _ h _ (List.mem_cons_self) rfl)]
  simp; omega
theorem drop_keeps {l : List It} (hn : (l.map It.blk).Nodup) {x : It} (hx : x ∈ l) (p : It → Bool) (hp : p x = false) : (l.filter fun y => y.blk != x.blk).filter p = l.filter p := by
  rw [List.filter_filter]
  refine List.filter_congr (fun y hy => ?_)
  by_cases e : y.blk = x.blk
  · rw [blk_eq hn hy hx e, hp]; rfl
  · have : (y.blk != x.blk) = true := bne_iff_ne.2 e
    rw [this, Bool.and_true]
theorem drop_after (c : Ca) (x : It) (w : World) (h : CaAt w c) (hx : x ∈ c.its) :
    Calls Try.prog 56 #[.pointer (some ⟨c.cb, 0, none⟩), x.ptr] w fun e w' => e = .returned (.tuple #[]) ∧
      ∃ c', After w c w' c' ∧ c'.uses = c.uses ∧ c'.ord = c.ord.filter (fun y => y.blk != x.blk) := by
  refine (drop_any c x w h hx).mono ?_
  rintro e w' ⟨rfl, c', h1, h2, h3, h4, h5, h6, h7⟩
  exact ⟨rfl, c', ⟨h1, h2, h3, h6, fun k hk => .inl (h7 k hk)⟩, h4, h5⟩

/-- The first item in memory. -/
theorem CaAt.first {W : World} {c : Ca} (h : CaAt W c) {x : It} (hx : c.its[0]? = some x) :
    ∃ g cap, c.sv = .slice (some ⟨g, 0, none⟩) c.its.length cap ∧ W.cell? ⟨g, 0, none⟩ = some (.pointer (some ⟨x.blk, 0, none⟩)) ∧ W.cell? ⟨x.blk, 5, none⟩ = some (.int .i64 x.ent.til) ∧ ∀ y ∈ c.its, x.ent.til ≤ y.ent.til := by
  rcases h.stale with ⟨_, e⟩ | ⟨g, cap, e, hb, hr⟩
  · rw [e] at hx; cases hx
  · refine ⟨g, cap, e, (hr.rowAt hx).1, (hr.items 0 x hx).cell (o := 5) rfl, ?_⟩
    intro y hy
    obtain ⟨k, hk⟩ := List.getElem?_of_mem hy
    have h1 := heap_least h.heap k (List.getElem?_eq_some_iff.1 hk).1
    rw [untilAt_of hx, untilAt_of hk] at h1
    exact h1

set_option maxRecDepth 100000 in
theorem expire_any (c : Ca) (now : Int) (w : World) (h : CaAt w c) :
    Calls Try.prog 45 #[.pointer (some ⟨c.cb, 0, none⟩), .int .i64 now] w fun e w' => ∃ c', e = .returned (.int .i64 (c.ord.length - c'.ord.length : Nat)) ∧ After w c w' c' ∧ c'.uses = c.uses ∧ c'.ord = c.ord.filter (fun x => decide (now ≤ x.ent.til)) := by
  have H := Lib.hid h
  have hfew : c.ord.length ≤ 1000000 := by rw [h.len]; exact h.few
  clear h
  go_enter Try.func45, Try.ntmps45
  go_wp2
  go_loopw [5] (fun n_ wr => ∃ c', n_ = .int .i64 (c.ord.length - c'.ord.length : Nat) ∧ After w c wr c' ∧ c'.uses = c.uses ∧ c'.ord.length ≤ c.ord.length ∧ c'.ord.filter (fun x => decide (now ≤ x.ent.til)) = c.ord.filter (fun x => decide (now ≤ x.ent.til))) (fun n_ _ => c.ord.length - (intOf n_).toNat)
  case atStart =>
    exact ⟨c, by rw [Nat.sub_self]; rfl, After.refl H.out, rfl, Nat.le_refl _, rfl⟩
  case round =>
    obtain ⟨c', rfl, ha, hu, hl, hf⟩ := hrel
    have hat := ha.at'
    obtain ⟨⟨c0, c1, c2, c3⟩, f0⟩ := hat.cells
    rw [ha.cb] at c2
    by_cases h0 : c'.its = []
    · obtain ⟨A, cap, hsv⟩ : ∃ A cap, c'.sv = .slice A 0 cap := by
        rcases hat.stale with ⟨e, _⟩ | ⟨g, cap, e, _, _⟩
        · exact ⟨none, 0, e⟩
        · exact ⟨_, _, by rw [e, h0]; rfl⟩
      rw [hsv] at c2
      have Ha := Lib.hid ha
      have Hf := Lib.hid hf
      clear ha hat c0 c1 c3 f0 hsv hf
      go_wp2
      go_ret
      refine ⟨c', rfl, Ha.out, hu, ?_⟩
      have he : c'.ord = [] := List.eq_nil_of_length_eq_zero (by rw [Ha.out.at'.len, h0]; rfl)
      rw [← Hf.out, he]; rfl
    · obtain ⟨x, hx⟩ := get_of_lt (List.length_pos_iff.2 h0)
      obtain ⟨g, cap, hsv, q0, q1, hmin⟩ := hat.first hx
      rw [hsv] at c2
      have hpos : 0 < c'.its.length := List.length_pos_iff.2 h0
      have hmem := List.mem_of_getElem? hx
      by_cases hn : x.ent.til < now
      · have hc : Calls Try.prog 56 #[.pointer (some ⟨c.cb, 0, none⟩), .pointer (some ⟨x.blk, 0, none⟩)] wr fun e w' => e = .returned (.tuple #[]) ∧
            ∃ c'', After wr c' w' c'' ∧ c''.uses = c'.uses ∧ c''.ord = c'.ord.filter (fun y => y.blk != x.blk) := by
          rw [← ha.cb]; exact drop_after c' x wr hat hmem
        have Hc := Lib.hid hc
        have Ha := Lib.hid ha
        have Hn := Lib.hid hn
        have hd := decide_eq_true hn
        clear hc ha hat c0 c1 c3 f0 h0 hsv hmin hn
        have Hf := Lib.hid hf
        clear hf
        have hw : wrap64 ((c.ord.length - c'.ord.length : Nat) + 1) = ((c.ord.length - c'.ord.length : Nat) : Int) + 1 := by unfold wrap64; omega
        go_wp2_with fail
        refine Hc.out.mono ?_
        rintro e w2 ⟨rfl, c2', ha2, hu2, hord⟩
        have hol : c'.ord.length = c'.its.length := Ha.out.at'.len
        have hxo : x ∈ c'.ord := Ha.out.at'.perm.mem_iff.2 hmem
        have hdl := drop_len Ha.out.at'.nodup hxo
        rw [← hord] at hdl
        have ha3 := Ha.out.trans ha2
        have hk : c2'.ord.filter (fun x => decide (now ≤ x.ent.til)) = c.ord.filter (fun x => decide (now ≤ x.ent.til)) := by
          rw [hord, drop_keeps Ha.out.at'.nodup hxo _ (decide_eq_false (by have := Hn.out; omega)), Hf.out]
        have Hk := Lib.hid hk
        have Ha3 := Lib.hid ha3
        clear ha2 ha3 hk
        go_wp2
        refine ⟨⟨c2', ?_, Ha3.out, by rw [hu2]; exact hu, by omega, Hk.out⟩, by simp [intOf]; omega⟩
        congr 1
        omega
      · have hd : decide (x.ent.til < now) = false := decide_eq_false hn
        have Ha := Lib.hid ha
        have Hn := Lib.hid hn
        have Hf := Lib.hid hf
        have Hmin := Lib.hid hmin
        clear ha hat c0 c1 c3 f0 h0 hsv hmin hn hf
        go_wp2
        go_ret
        refine ⟨c', rfl, Ha.out, hu, ?_⟩
        rw [← Hf.out]
        refine (List.filter_eq_self.2 ?_).symm
        intro y hy
        have := Hmin.out y (Ha.out.at'.perm.mem_iff.1 hy)
        have := Hn.out
        exact decide_eq_true (by omega)

set_option maxRecDepth 100000 in
theorem next_any (c : Ca) (w : World) (h : CaAt w c) :
    Calls Try.prog 44 #[.pointer (some ⟨c.cb, 0, none⟩)] w fun e w' => w = w' ∧ ((c.its = [] ∧ e = .returned (.tuple #[.int .i64 0, .bool false])) ∨ ∃ x ∈ c.its, e = .returned (.tuple #[.int .i64 x.ent.til, .bool true]) ∧ ∀ y ∈ c.its, x.ent.til ≤ y.ent.til) := by
  have hlen := len_any c w h
  by_cases h0 : c.its = []
  · rw [h0] at hlen
    have Hlen := Lib.hid hlen
    have H0 := Lib.hid h0
    clear h h0 hlen
    go_enter Try.func44, Try.ntmps44
    go_wp2_with fail
    refine Hlen.out.mono ?_
    rintro e w1 ⟨rfl, rfl⟩
    dsimp only [List.length_nil]
    go_wp2
    go_ret2
    exact ⟨rfl, .inl ⟨H0.out, rfl⟩⟩
  · have hpos : 0 < c.its.length := List.length_pos_iff.2 h0
    obtain ⟨x, hx⟩ := get_of_lt hpos
    obtain ⟨⟨c0, c1, c2, c3⟩, f0⟩ := h.cells
    obtain ⟨g, cap, hsv, q0, q1, hmin⟩ := h.first hx
    rw [hsv] at c2
    have hd : ((c.its.length : Int) == 0) = false := beq_eq_false_iff_ne.2 (by omega)
    have Hlen := Lib.hid hlen
    have Hmin := Lib.hid hmin
    have Hx := Lib.hid hx
    clear h h0 hlen hmin hx c0 c1 c3 f0 hsv
    go_enter Try.func44, Try.ntmps44
    go_wp2_with fail
    refine Hlen.out.mono ?_
    rintro e w1 ⟨rfl, rfl⟩
    go_wp2
    go_ret2
    exact ⟨rfl, .inr ⟨x, List.mem_of_getElem? Hx.out, rfl, Hmin.out⟩⟩
theorem next_nil (w : World) :
    Calls Try.prog 44 #[.pointer none] w fun e w' => w = w' ∧ e = .returned (.tuple #[.int .i64 0, .bool false]) := by
  go_enter Try.func44, Try.ntmps44
  go_wp2_with fail
  refine (len_nil _).mono ?_
  rintro e w1 ⟨rfl, rfl⟩
  go_wp2
  go_ret2
  exact ⟨rfl, rfl⟩
theorem expire_nil (now : Int) (w : World) :
    Calls Try.prog 45 #[.pointer none, .int .i64 now] w fun e w' => e = .returned (.int .i64 0) ∧ w = w' := by
  go_enter Try.func45, Try.ntmps45
  go_wp2
  go_loopw [5] (fun n_ wr => n_ = .int .i64 0 ∧ w = wr) (fun n_ _ => 0)
  case atStart => exact ⟨rfl, rfl⟩
  case round =>
    obtain ⟨rfl, rfl⟩ := hrel
    go_wp2
    go_ret
    exact ⟨rfl, rfl⟩
end Go.Proofs.Ytihfapnipifiiaa
/- A use of an item; the walks of cache.tell, Get, Name. -/
namespace Go.Proofs.Ytihfapnipifiiaa
open Go Go.RowKit Go.Shelf

/-- An item that is used. -/
def useF (b : Nat) (u : Int) (y : It) : It := if y.blk = b then { y with used := u } else y
theorem useF_blk (b : Nat) (u : Int) (y : It) : (useF b u y).blk = y.blk := by unfold useF; split <;> rfl
theorem useF_ent (b : Nat) (u : Int) (y : It) : (useF b u y).ent = y.ent := by unfold useF; split <;> rfl
theorem useF_rv (b : Nat) (u : Int) (y : It) : (useF b u y).rv = y.rv := by unfold useF; split <;> rfl
theorem useF_ptr (b : Nat) (u : Int) (y : It) : (useF b u y).ptr = y.ptr := by unfold It.ptr; rw [useF_blk]
theorem useF_map (b : Nat) (u : Int) (l : List It) : (l.map (useF b u)).map It.blk = l.map It.blk := by rw [List.map_map]; exact List.map_congr_left (fun y _ => useF_blk b u y)
/-- A cache behind the use of an item. -/
def Ca.use (c : Ca) (x : It) : Ca := { c with uses := c.uses + 1, its := c.its.map (useF x.blk (c.uses + 1)), ord := c.ord.filter (fun y => y.blk != x.blk) ++ [{ x with used := c.uses + 1 }] }

theorem use_at {W W' : World} {c : Ca} {x : It} (h : CaAt W c) (hx : x ∈ c.its) (hW : W'.heap = ((W.setCell ⟨c.cb, 3, none⟩ (.int .i64 (c.uses + 1))).setCell ⟨x.blk, 10, none⟩ (.int .i64 (c.uses + 1))).heap) : CaAt W' (c.use x) := by
  have hxb := h.items x hx
  have far : ∀ k, k ≠ c.cb → k ≠ x.blk → W'.heap[k]? = W.heap[k]? := fun k h1 h2 => by
    rw [hW]
    exact (Below.heap_setCell _ _ _ _ h2).trans (Below.heap_setCell _ _ _ _ h1)
  have hn := h.stale.items.2
  have hit : ∀ i y, c.its[i]? = some y → ItemAt W' (useF x.blk (c.uses + 1) y) i := by
    intro i y hy
    have hyi := h.stale.items.1 i y hy
    have hym := List.mem_of_getElem? hy
    have hyb := h.items y hym
    by_cases e : y.blk = x.blk
    · have : y = x := blk_eq hn hym hx e
      subst this
      have e2 : useF y.blk (c.uses + 1) y = { y with used := c.uses + 1 } := by unfold useF; rw [if_pos rfl]
      rw [e2]
      have h1 : ItemAt (W.setCell ⟨c.cb, 3, none⟩ (.int .i64 (c.uses + 1))) y i := hyi.same (Below.heap_setCell _ _ _ _ (by show y.blk ≠ c.cb; omega))
      exact (h1.setUsed (c.uses + 1)).same (by rw [hW])
    · have e2 : useF x.blk (c.uses + 1) y = y := by unfold useF; rw [if_neg e]
      rw [e2]
      exact hyi.same (far _ (by omega) e)
  have hits : ∀ (i : Nat) (y' : It), (c.its.map (useF x.blk (c.uses + 1)))[i]? = some y' → ∃ y, c.its[i]? = some y ∧ y' = useF x.blk (c.uses + 1) y := by
    intro i y' hy
    rw [List.getElem?_map] at hy
    cases hc : c.its[i]? with
    | none => rw [hc] at hy; cases hy
    | some y => rw [hc] at hy; cases hy; exact ⟨y, rfl, rfl⟩
  have hmem : ∀ y' ∈ c.its.map (useF x.blk (c.uses + 1)), ∃ y ∈ c.its, y' = useF x.blk (c.uses + 1) y := fun y' hy => by
    obtain ⟨y, hy1, rfl⟩ := List.mem_map.1 hy
    exact ⟨y, hy1, rfl⟩
  have cellT : ∀ (k : Nat) (cs : Array Value) (t : TypeId), W.heap[k]? = some (Obj.cells cs t (0, 0)) → t ≠ 91 → t ≠ 103 → W'.heap[k]? = W.heap[k]? := by
    intro k cs t hk h1 h2
    refine far k ?_ ?_
    · rintro rfl; rw [h.block] at hk; injection hk with hk; injection hk with _ hk; exact h1 hk.symm
    · rintro rfl
      obtain ⟨i, _, _, hi⟩ := h.item hx
      unfold ItemAt at hi
      rw [hi] at hk; injection hk with hk; injection hk with _ hk; exact h2 hk.symm
  refine { block := ?_, map := ?_, stale := ?_, items := ?_, recs := ?_, heap := ?_, perm := ?_, sorted := ?_, used := ?_, oks := ?_, few := ?_ }
  · have hb := h.block
    rw [hW]
    refine (Below.heap_setCell _ _ _ _ (by show c.cb ≠ x.blk; omega)).trans ?_
    simp [World.setCell, Array.getElem?_modify, hb, Ca.use]
  · rcases h.map with ⟨_, e⟩ | ⟨mb, e, hlt, hm⟩
    · rw [e] at hx; cases hx
    · refine .inr ⟨mb, e, hlt, ?_⟩
      have hmf : W'.heap[mb]? = W.heap[mb]? := by
        refine far mb (by omega) ?_
        rintro rfl
        obtain ⟨i, _, _, hi⟩ := h.item hx
        obtain ⟨es, clk, hb, _⟩ := hm
        unfold ItemAt at hi
        rw [hi] at hb; cases hb
      refine (hm.same hmf).alike ?_
      show _ = (c.its.map (useF x.blk (c.uses + 1))).map It.ent2
      rw [List.map_map]
      refine List.map_congr_left (fun y _ => ?_)
      show y.ent2 = (useF x.blk (c.uses + 1) y).ent2
      unfold It.ent2; rw [useF_ent, useF_ptr]
  · show StaleV W' (c.cb + 1) c.sv (c.its.map (useF x.blk (c.uses + 1)))
    rcases h.stale with ⟨_, e⟩ | ⟨g, cap, e, hg, ⟨cur, r1, r2, r3⟩, _, _, hle, hmost⟩
    · rw [e] at hx; cases hx
    · refine .inr ⟨g, cap, by rw [e, List.length_map], hg, ⟨⟨cur, (cellT g cur _ r1 (by decide) (by decide)).trans r1, r2, fun i hi => ?_⟩, ?_, ?_, by rw [List.length_map]; exact hle, hmost⟩⟩
      · rw [List.length_map] at hi
        rw [r3 i hi]
        dsimp only
        rw [List.getElem?_map]
        obtain ⟨y, hy⟩ := get_of_lt hi
        rw [hy]
        show some y.ptr = some (useF x.blk (c.uses + 1) y).ptr
        rw [useF_ptr]
      · intro i y' hy
        obtain ⟨y, hy1, rfl⟩ := hits i y' hy
        exact hit i y hy1
      · rw [useF_map]; exact hn
  · intro y' hy
    obtain ⟨y, hm, rfl⟩ := hmem y' hy
    rw [useF_blk]; exact h.items y hm
  · intro y' hy
    obtain ⟨y, hm, rfl⟩ := hmem y' hy
    rw [useF_rv, useF_ent]
    exact (h.recs y hm).same (fun k cur _ hk => cellT k cur _ hk (by decide) (by decide))
  · intro k k0 k1
    have hu : ∀ j, untilAt (c.its.map (useF x.blk (c.uses + 1))) j = untilAt c.its j := by
      intro j
      unfold untilAt
      rw [List.getElem?_map]
      cases c.its[j]? with
      | none => rfl
      | some y => show ((useF x.blk (c.uses + 1) y).ent.til) = _; rw [useF_ent]; rfl
    have h1 := h.heap k k0 (by have : k < (c.its.map (useF x.blk (c.uses + 1))).length := k1; rw [List.length_map] at this; exact this)
    show untilAt (c.its.map _) _ ≤ untilAt (c.its.map _) _
    rw [hu, hu]; exact h1
  · show (c.ord.filter (fun (y : It) => y.blk != x.blk) ++ [{ x with used := c.uses + 1 }]).Perm (c.its.map (useF x.blk (c.uses + 1)))
    have hxo : x ∈ c.ord := h.perm.mem_iff.2 hx
    have hno := h.nodup
    refine List.Perm.trans ?_ (h.perm.map _)
    obtain ⟨s, t, hst⟩ := List.append_of_mem hxo
    rw [hst] at hno ⊢
    rw [List.map_append, List.map_cons, List.nodup_append] at hno
    obtain ⟨h1, h2, h3⟩ := hno
    rw [List.nodup_cons] at h2
    have hs : x.blk ∉ s.map It.blk := fun h => h3 _ h _ (List.mem_cons_self) rfl
    have hid : ∀ l : List It, x.blk ∉ l.map It.blk → l.map (useF x.blk (c.uses + 1)) = l := by
      intro l hl
      conv => rhs; rw [← List.map_id l]
      refine List.map_congr_left (fun y hy => ?_)
      unfold useF
      rw [if_neg (fun e => hl (List.mem_map.2 ⟨y, hy, e⟩))]; rfl
    rw [List.filter_append, List.filter_cons_of_neg (by simp), filter_blk h2.1, filter_blk hs, List.map_append, List.map_cons, hid s hs, hid t h2.1]
    have e2 : useF x.blk (c.uses + 1) x = { x with used := c.uses + 1 } := by unfold useF; rw [if_pos rfl]
    rw [e2, List.append_assoc]
    exact List.Perm.append_left s (List.perm_append_singleton _ t)
  · show (c.ord.filter (fun (y : It) => y.blk != x.blk) ++ [{ x with used := c.uses + 1 }]).Pairwise _
    rw [List.pairwise_append]
    refine ⟨h.sorted.filter _, List.pairwise_singleton _ _, ?_⟩
    intro a ha b hb
    have hb' : b = { x with used := c.uses + 1 } := by simpa using hb
    rw [hb']
    have := h.used a (h.perm.mem_iff.1 (List.mem_filter.1 ha).1)
    show a.used < c.uses + 1
    omega
  · intro y' hy
    obtain ⟨y, hm, rfl⟩ := hmem y' hy
    have := h.used y hm
    show (useF x.blk (c.uses + 1) y).used ≤ c.uses + 1
    unfold useF; split
    · exact Int.le_refl _
    · omega
  · intro y' hy
    obtain ⟨y, hm, rfl⟩ := hmem y' hy
    rw [useF_ent]; exact h.oks y hm
  · show (c.its.map _).length ≤ _
    rw [List.length_map]; exact h.few
theorem use_own {c : Ca} {x : It} {k : Nat} (h : (c.use x).own k) : c.own k := by
  rcases h with e | e | e | e | ⟨y, hy, e⟩
  · exact .inl e
  · exact .inr (.inl e)
  · exact .inr (.inr (.inl e))
  · have e' : k ∈ (c.its.map (useF x.blk (c.uses + 1))).map It.blk := e
    rw [useF_map] at e'
    exact .inr (.inr (.inr (.inl e')))
  · obtain ⟨z, hz, rfl⟩ := List.mem_map.1 (show y ∈ c.its.map (useF x.blk (c.uses + 1)) from hy)
    rw [useF_rv] at e
    exact .inr (.inr (.inr (.inr ⟨z, hz, e⟩)))
end Go.Proofs.Ytihfapnipifiiaa
/- The walks of cache.tell, Get, Name. -/
namespace Go.Proofs.Ytihfapnipifiiaa
open Go Go.RowKit Go.Shelf

def zeroE : Ent := ⟨0, [], 0, 0, [], 0, 0, 0, 0⟩
theorem zero_val : zeroE.val (.slice none 0 0) = .agg #[.int .i64 0, .string ⟨#[]⟩, .int .u16 0, .int .u16 0, .slice none 0 0, .int .i64 0, .int .i64 0, .int .i64 0, .int .i64 0] := rfl
/-- What a cache tells. -/
def Told (w : World) (c : Ca) (k : List UInt8) (now : Int) (r : Ending) (w' : World) : Prop :=
  ((∀ x ∈ c.ord, x.ent.key = k → x.ent.til < now) ∧ r = .returned (.tuple #[zeroE.val (.slice none 0 0), .bool false]) ∧ Below w.heap.size w w') ∨
  ∃ x ∈ c.ord, x.ent.key = k ∧ now ≤ x.ent.til ∧ ∃ rv', r = .returned (.tuple #[x.ent.val rv', .bool true]) ∧ RecsOwn w' w.heap.size rv' x.ent.recs ∧ CaAt w' (c.use x) ∧ ModS c.own w w'
theorem CaAt.key_one {W : World} {c : Ca} (h : CaAt W c) {x y : It} (hx : x ∈ c.its) (hy : y ∈ c.its) (e : x.ent.key = y.ent.key) : x = y := by
  rcases h.map with ⟨_, e0⟩ | ⟨mb, _, _, hm⟩
  · rw [e0] at hx; cases hx
  · have hn := hm.nodup
    obtain ⟨i, hi, rfl⟩ := List.getElem_of_mem hx
    obtain ⟨j, hj, rfl⟩ := List.getElem_of_mem hy
    have h1 : (c.its.map fun x => x.ent.key)[i]'(by simpa using hi) = (c.its.map fun x => x.ent.key)[j]'(by simpa using hj) := by rw [List.getElem_map, List.getElem_map, e]
    have h2 := (List.getElem_inj hn).1 h1
    subst h2; rfl
theorem recs_few {e : Ent} (h : cchk e = 0) : e.recs.length ≤ 64 := by
  unfold cchk at h
  split at h
  · rename_i h1
    simp only [Bool.and_eq_true] at h1
    have h2 := h1.1.2
    unfold lenOk within at h2
    split at h2
    · simp only [Bool.and_eq_true, decide_eq_true_eq] at h2; omega
    · simp only [Bool.and_eq_true, decide_eq_true_eq] at h2; omega
  · cases h

theorem look_any {W : World} {c : Ca} (h : CaAt W c) (k : List UInt8) :
    ((∀ x ∈ c.its, x.ent.key ≠ k) ∧ (Instr.lookup 87 c.mv (.string (bs k)) true).run Try.prog W = .ok (.tuple #[.pointer none, .bool false]) W) ∨
    ∃ x ∈ c.its, x.ent.key = k ∧ (Instr.lookup 87 c.mv (.string (bs k)) true).run Try.prog W = .ok (.tuple #[.pointer (some ⟨x.blk, 0, none⟩), .bool true]) W := by
  rcases h.map with ⟨e, e0⟩ | ⟨mb, e, _, hm⟩
  · left
    rw [e, e0]
    exact ⟨fun x hx => (by cases hx), look_nil _ _⟩
  · rw [e]
    by_cases hk : ∃ x ∈ c.its, x.ent.key = k
    · obtain ⟨x, hx, rfl⟩ := hk
      exact .inr ⟨x, hx, rfl, look_hit hm hx⟩
    · have hk' : ∀ x ∈ c.its, x.ent.key ≠ k := fun x hx e => hk ⟨x, hx, e⟩
      exact .inl ⟨hk', look_miss hm hk'⟩

set_option maxRecDepth 100000 in
theorem tell_nil (k : ByteArray) (now : Int) (w : World) :
    Calls Try.prog 61 #[.pointer none, .string k, .int .i64 now] w fun r w' => r = .returned (.tuple #[zeroE.val (.slice none 0 0), .bool false]) ∧ Below w.heap.size w w' := by
  rw [zero_val]
  go_enter Try.func61, Try.ntmps61
  go_wp2
  exact bodyPost_ret (v := .tuple #[.agg #[.int .i64 0, .string ⟨#[]⟩, .int .u16 0, .int .u16 0, .slice none 0 0, .int .i64 0, .int .i64 0, .int .i64 0, .int .i64 0], .bool false]) (by simp [results, Try.results61, go_sem]) rfl ⟨rfl, (Below.refl _ w).alloc (Nat.le_refl _) _⟩

theorem CaAt.itemCells {W : World} {c : Ca} (h : CaAt W c) {x : It} (hx : x ∈ c.its) : W.cell? ⟨x.blk, 0, none⟩ = some (.int .i64 x.ent.kind) ∧ W.cell? ⟨x.blk, 1, none⟩ = some (.string (bs x.ent.name)) ∧ W.cell? ⟨x.blk, 2, none⟩ = some (.int .u16 x.ent.t) ∧ W.cell? ⟨x.blk, 3, none⟩ = some (.int .u16 x.ent.c) ∧ W.cell? ⟨x.blk, 4, none⟩ = some x.rv ∧
    W.cell? ⟨x.blk, 5, none⟩ = some (.int .i64 x.ent.til) ∧ W.cell? ⟨x.blk, 6, none⟩ = some (.int .i64 x.ent.rank) ∧ W.cell? ⟨x.blk, 7, none⟩ = some (.int .i64 x.ent.epoch) ∧ W.cell? ⟨x.blk, 8, none⟩ = some (.int .i64 x.ent.source) ∧ W.cell? ⟨x.blk, 10, none⟩ = some (.int .i64 x.used) ∧ W.frozen? ⟨x.blk, 10, none⟩ = false := by
  obtain ⟨i, _, _, hi⟩ := h.item hx
  exact ⟨hi.cell rfl, hi.cell rfl, hi.cell rfl, hi.cell rfl, hi.cell rfl, hi.cell rfl, hi.cell rfl, hi.cell rfl, hi.cell rfl, hi.cell rfl, hi.free 10⟩

/-- Behind the use of an item, and an alloc. -/
theorem use_world {w W2 : World} {c : Ca} {x : It} {o : Obj} (h : CaAt w c) (hx : x ∈ c.its) (hW : W2 = (((w.setCell ⟨c.cb, 3, none⟩ (.int .i64 (c.uses + 1))).setCell ⟨x.blk, 10, none⟩ (.int .i64 (c.uses + 1))).alloc o)) :
    CaAt W2 (c.use x) ∧ ModS c.own w W2 ∧ W2.heap.size = w.heap.size + 1 ∧ W2.heap[w.heap.size]? = some o := by
  have hm : ModS c.own w ((w.setCell ⟨c.cb, 3, none⟩ (.int .i64 (c.uses + 1))).setCell ⟨x.blk, 10, none⟩ (.int .i64 (c.uses + 1))) :=
    ((ModS.refl c.own w).set (p := ⟨c.cb, 3, none⟩) (.inl rfl) _).set (p := ⟨x.blk, 10, none⟩) (.inr (.inr (.inr (.inl (List.mem_map.2 ⟨x, hx, rfl⟩))))) _
  have hz : ((w.setCell ⟨c.cb, 3, none⟩ (.int .i64 (c.uses + 1))).setCell ⟨x.blk, 10, none⟩ (.int .i64 (c.uses + 1))).heap.size = w.heap.size := by simp [World.setCell]
  have ha := heap_alloc_new ((w.setCell ⟨c.cb, 3, none⟩ (.int .i64 (c.uses + 1))).setCell ⟨x.blk, 10, none⟩ (.int .i64 (c.uses + 1))) o
  rw [hz] at ha
  rw [hW]
  exact ⟨(use_at h hx rfl).below ((Below.refl _ _).alloc (Nat.le_refl _) _), hm.alloc o, by rw [World.size_alloc, hz], ha⟩
theorem tell_fin {w W2 w3 w4 : World} {c : Ca} {x : It} {rv' : Value} (h : CaAt w c) (hx : x ∈ c.its) (h2 : CaAt W2 (c.use x)) (m2 : ModS c.own w W2) (hz : W2.heap.size = w.heap.size + 1) (h3 : Below W2.heap.size W2 w3) (ho : RecsOwn w3 W2.heap.size rv' x.ent.recs)
    (m4 : ModS (fun k => k = w.heap.size) w3 w4) : RecsOwn w4 w.heap.size rv' x.ent.recs ∧ CaAt w4 (c.use x) ∧ ModS c.own w w4 := by
  have hs := h3.size
  refine ⟨(ho.same (fun k cur hk hc => m4.block k (Array.getElem?_eq_some_iff.1 hc).1 ?_)).mono (by omega), (h2.below h3).same (fun k hk => m4.block k ?_ ?_), ?_⟩
  · have := (own_cells ho k hk).1
    omega
  · have := (h.own_lt (use_own hk)).2
    omega
  · have := (h.own_lt (use_own hk)).2
    omega
  · exact (m2.below h3).comp m4 (fun i hi e => absurd hi (by omega))

set_option maxRecDepth 100000 in
set_option maxHeartbeats 1000000 in
theorem tell_any (c : Ca) (k : List UInt8) (now : Int) (w : World) (h : CaAt w c) (hu : -9223372036854775808 ≤ c.uses ∧ c.uses < 9223372036854775807) :
    Calls Try.prog 61 #[.pointer (some ⟨c.cb, 0, none⟩), .string (bs k), .int .i64 now] w fun r w' => Told w c k now r w' := by
  obtain ⟨W1, hW1⟩ : ∃ W1, W1 = w.alloc (.cells #[.int .i64 0, .string ⟨#[]⟩, .int .u16 0, .int .u16 0, .slice none 0 0, .int .i64 0, .int .i64 0, .int .i64 0, .int .i64 0] 25) := ⟨_, rfl⟩
  have hb1 : Below w.heap.size w W1 := by rw [hW1]; exact (Below.refl _ w).alloc (Nat.le_refl _) _
  have h1 : CaAt W1 c := h.below hb1
  have hcl := h.lt
  obtain ⟨⟨c0, c1, c2, c3⟩, f0⟩ := h1.cells
  have f3 := f0 3
  rcases look_any h1 k with ⟨hk, hl⟩ | ⟨x, hx, hk, hl⟩
  · have fin : Told w c k now (.returned (.tuple #[zeroE.val (.slice none 0 0), .bool false])) W1 := .inl ⟨fun x hx e => absurd e (hk x (h.perm.mem_iff.1 hx)), rfl, hb1⟩
    rw [zero_val] at fin
    have Fin := Lib.hid fin
    generalize c.mv = mv at *
    clear fin h h1 hk c0 c2 c3 f0 f3 hb1
    subst hW1
    go_enter Try.func61, Try.ntmps61
    go_wp2
    exact bodyPost_ret (v := .tuple #[.agg #[.int .i64 0, .string ⟨#[]⟩, .int .u16 0, .int .u16 0, .slice none 0 0, .int .i64 0, .int .i64 0, .int .i64 0, .int .i64 0], .bool false]) (by simp [results, Try.results61, go_sem]) rfl Fin.out
  · obtain ⟨i0, i1, i2, i3, i4, i5, i6, i7, i8, i10, if10⟩ := h1.itemCells hx
    have hxb := h.items x hx
    have hxl : x.blk < w.heap.size := by obtain ⟨_, _, _, hi⟩ := h.item hx; exact hi.lt
    have hne : c.cb ≠ x.blk := by omega
    by_cases hn : x.ent.til < now
    · have fin : Told w c k now (.returned (.tuple #[zeroE.val (.slice none 0 0), .bool false])) W1 := .inl ⟨fun y hy e => by
        have := h.key_one (h.perm.mem_iff.1 hy) hx (e.trans hk.symm)
        rw [this]; exact hn, rfl, hb1⟩
      rw [zero_val] at fin
      have Fin := Lib.hid fin
      have hd := decide_eq_true hn
      have Hn := Lib.hid hn
      generalize c.mv = mv at *
      clear fin h h1 hk c0 c2 c3 f0 f3 hb1 hn i0 i1 i2 i3 i4 i6 i7 i8 i10 if10
      subst hW1
      go_enter Try.func61, Try.ntmps61
      go_wp2
      exact bodyPost_ret (v := .tuple #[.agg #[.int .i64 0, .string ⟨#[]⟩, .int .u16 0, .int .u16 0, .slice none 0 0, .int .i64 0, .int .i64 0, .int .i64 0, .int .i64 0], .bool false]) (by simp [results, Try.results61, go_sem]) rfl Fin.out
    · have hd := decide_eq_false hn
      obtain ⟨j0, j1, j2, j3, j4, j5, j6, j7, j8, j10, jf10⟩ := h.itemCells hx
      have d3 := h.cells.1.2.2.2
      have g3 := h.cells.2 3
      have hw64 : wrap64 (c.uses + 1) = c.uses + 1 := by unfold wrap64; omega
      have Hn := Lib.hid hn
      have H := Lib.hid h
      have H1 := Lib.hid h1
      have Hx := Lib.hid hx
      have Hb1 := Lib.hid hb1
      have Hk := Lib.hid hk
      generalize hmv : c.mv = mv at *
      clear h h1 hk c0 c2 f0 hb1 hn hx hmv
      subst hW1
      go_enter Try.func61, Try.ntmps61
      go_wp2_with fail
      clear c3 f3 i0 i1 i2 i3 i4 i5 i6 i7 i8 i10 if10 j0 j1 j2 j3 j4 j5 j6 j7 j8 j10 jf10 d3 g3 hl
      have hU := fun W2 => use_world (W2 := W2) (o := .cells #[.int .i64 0, .string ⟨#[]⟩, .int .u16 0, .int .u16 0, .slice none 0 0, .int .i64 0, .int .i64 0, .int .i64 0, .int .i64 0] 25) H.out Hx.out
      have HU := hU _ rfl
      clear hU
      generalize hW2 : World.alloc _ _ = W2 at HU ⊢
      obtain ⟨u1, u2, u3, u4⟩ := HU
      have hrec : RecsOwn W2 (c.cb + 1) x.rv x.ent.recs := by
        have := u1.recs (useF x.blk (c.uses + 1) x) (List.mem_map.2 ⟨x, Hx.out, rfl⟩)
        rw [useF_rv, useF_ent] at this; exact this
      have hcp := copied_any x.ent x.rv W2 hrec.at (by have := recs_few (H.out.oks x Hx.out).2; omega)
      unfold Ent.val at hcp
      refine hcp.mono ?_
      rintro r w3 ⟨rv', rfl, ho, h3⟩
      have hz3 := h3.size
      have hb3 : w3.heap[w.heap.size]? = some (.cells #[.int .i64 0, .string ⟨#[]⟩, .int .u16 0, .int .u16 0, .slice none 0 0, .int .i64 0, .int .i64 0, .int .i64 0, .int .i64 0] 25 (0, 0)) := (h3.block _ (by omega)).trans u4
      obtain ⟨A, cap, rfl⟩ := ho.shape
      have z0 : w3.cell? ⟨w.heap.size, 0, none⟩ = some (.int .i64 0) := by simp [World.cell?, hb3]
      have z1 : w3.cell? ⟨w.heap.size, 1, none⟩ = some (.string ⟨#[]⟩) := by simp [World.cell?, hb3]
      have z2 : w3.cell? ⟨w.heap.size, 2, none⟩ = some (.int .u16 0) := by simp [World.cell?, hb3]
      have z3 : w3.cell? ⟨w.heap.size, 3, none⟩ = some (.int .u16 0) := by simp [World.cell?, hb3]
      have z4 : w3.cell? ⟨w.heap.size, 4, none⟩ = some (.slice none 0 0) := by simp [World.cell?, hb3]
      have z5 : w3.cell? ⟨w.heap.size, 5, none⟩ = some (.int .i64 0) := by simp [World.cell?, hb3]
      have z6 : w3.cell? ⟨w.heap.size, 6, none⟩ = some (.int .i64 0) := by simp [World.cell?, hb3]
      have z7 : w3.cell? ⟨w.heap.size, 7, none⟩ = some (.int .i64 0) := by simp [World.cell?, hb3]
      have z8 : w3.cell? ⟨w.heap.size, 8, none⟩ = some (.int .i64 0) := by simp [World.cell?, hb3]
      have f0 : w3.frozen? ⟨w.heap.size, 0, none⟩ = false := by simp [World.frozen?, hb3]
      have f1 : w3.frozen? ⟨w.heap.size, 1, none⟩ = false := by simp [World.frozen?, hb3]
      have f2 : w3.frozen? ⟨w.heap.size, 2, none⟩ = false := by simp [World.frozen?, hb3]
      have f3 : w3.frozen? ⟨w.heap.size, 3, none⟩ = false := by simp [World.frozen?, hb3]
      have f4 : w3.frozen? ⟨w.heap.size, 4, none⟩ = false := by simp [World.frozen?, hb3]
      have f5 : w3.frozen? ⟨w.heap.size, 5, none⟩ = false := by simp [World.frozen?, hb3]
      have f6 : w3.frozen? ⟨w.heap.size, 6, none⟩ = false := by simp [World.frozen?, hb3]
      have f7 : w3.frozen? ⟨w.heap.size, 7, none⟩ = false := by simp [World.frozen?, hb3]
      have f8 : w3.frozen? ⟨w.heap.size, 8, none⟩ = false := by simp [World.frozen?, hb3]
      have Fin := Lib.hid (fun w4 => tell_fin (w4 := w4) H.out Hx.out u1 u2 u3 h3 ho)
      clear hcp hrec u1 u2 u3 u4 h3 ho hb3 hW2
      go_wp2_with fail
      refine bodyPost_ret (v := .tuple #[.agg #[.int .i64 x.ent.kind, .string (bs x.ent.name), .int .u16 x.ent.t, .int .u16 x.ent.c, .slice A x.ent.recs.length cap, .int .i64 x.ent.til, .int .i64 x.ent.rank, .int .i64 x.ent.epoch, .int .i64 x.ent.source], .bool true]) (by simp [results, Try.results61, go_sem, z0, z1, z2, z3, z4, z5, z6, z7, z8]) rfl ?_
      refine .inr ⟨x, H.out.perm.mem_iff.2 Hx.out, Hk.out, by have := Hn.out; omega, _, rfl, Fin.out _ ?_⟩
      exact (((((((((ModS.refl (fun k => k = w.heap.size) w3).set rfl _).set rfl _).set rfl _).set rfl _).set rfl _).set rfl _).set rfl _).set rfl _).set rfl _
end Go.Proofs.Ytihfapnipifiiaa
/- The walks of cache.Get and Name. -/
namespace Go.Proofs.Ytihfapnipifiiaa
open Go Go.RowKit Go.Shelf

theorem get_fin {w w1 w2 w4 : World} {c : Ca} {k : List UInt8} {now : Int} {r : Ending} (h : CaAt w c) (hb : Below w.heap.size w w1) (hz : w.heap.size + 1 ≤ w1.heap.size) (ht : Told w1 c k now r w2) (m4 : ModS (fun k => k = w.heap.size) w2 w4) : Told w c k now r w4 := by
  rcases ht with ⟨hno, hr, hB⟩ | ⟨x, hx, hk, hn, rv', hr, ho, hca, hm⟩
  · exact .inl ⟨hno, hr, ModS.below_of (hb.trans (hB.mono hb.size)) m4 (by have := hB.size; omega) (fun k hk => by omega)⟩
  · refine .inr ⟨x, hx, hk, hn, rv', hr, (ho.same (fun k cur hk hc => m4.block k (Array.getElem?_eq_some_iff.1 hc).1 ?_)).mono (by omega), hca.same (fun k hk => m4.block k (hca.own_lt hk).2 ?_), ?_⟩
    · have := (own_cells ho k hk).1
      omega
    · have := (h.own_lt (use_own hk)).2
      omega
    · have h1 : ModS c.own w w2 := (((ModS.refl c.own w).below hb).trans hm)
      exact h1.comp m4 (fun i hi e => absurd hi (by omega))

set_option maxRecDepth 100000 in
set_option maxHeartbeats 1000000 in
theorem get_any (c : Ca) (n : ByteArray) (t q : Int) (now : Int) (w : World) (h : CaAt w c) (hu : -9223372036854775808 ≤ c.uses ∧ c.uses < 9223372036854775807) (hs : n.size ≤ 1048576) (t0 : 0 ≤ t) (t1 : t ≤ 65535) (q0 : 0 ≤ q) (q1 : q ≤ 65535) :
    Calls Try.prog 22 #[.pointer (some ⟨c.cb, 0, none⟩), .string n, .int .u16 t, .int .u16 q, .int .i64 now] w fun r w' => Told w c (keyL 0 (lst n) t q) now r w' := by
  have hb0 : Below w.heap.size w (w.alloc (.cells #[.int .i64 0, .string ⟨#[]⟩, .int .u16 0, .int .u16 0, .slice none 0 0, .int .i64 0, .int .i64 0, .int .i64 0, .int .i64 0] 25)) := (Below.refl _ w).alloc (Nat.le_refl _) _
  have H := Lib.hid h
  have Hb0 := Lib.hid hb0
  clear h hb0
  go_enter Try.func22, Try.ntmps22
  go_wp2_with fail
  refine (keyOf_any 0 n t q _ (by omega) (by omega) (by omega) (by omega) (by omega)).mono ?_
  rintro e w1 ⟨rfl, h1⟩
  have hz1 := h1.size
  rw [World.size_alloc] at hz1
  have hb1 : w1.heap[w.heap.size]? = some (.cells #[.int .i64 0, .string ⟨#[]⟩, .int .u16 0, .int .u16 0, .slice none 0 0, .int .i64 0, .int .i64 0, .int .i64 0, .int .i64 0] 25 (0, 0)) := (h1.block _ (by simp)).trans (heap_alloc_new _ _)
  have Hb1 := Lib.hid (Hb0.out.trans (h1.mono (by simp)))
  have H1 := Lib.hid (H.out.below Hb1.out)
  have HB1 := Lib.hid hb1
  clear h1 hb1
  go_wp2_with fail
  refine (tell_any c (keyL 0 (lst n) t q) now w1 H1.out hu).mono ?_
  intro r w2 ht
  have hown : ¬ c.own w.heap.size := fun e => by have := (H.out.own_lt e).2; omega
  rcases ht with ⟨hno, rfl, hB⟩ | ⟨x, hx, hk, hn, rv', rfl, ho, hca, hm⟩
  · have hb3 := (hB.block _ (by omega)).trans HB1.out
    have Fin := Lib.hid (fun w4 => get_fin (w4 := w4) (now := now) (k := keyL 0 (lst n) t q) H.out Hb1.out hz1 (.inl ⟨hno, rfl, hB⟩))
    rw [zero_val] at Fin ⊢
    have z0 : w2.cell? ⟨w.heap.size, 0, none⟩ = some (.int .i64 0) := by simp [World.cell?, hb3]
    have z1 : w2.cell? ⟨w.heap.size, 1, none⟩ = some (.string ⟨#[]⟩) := by simp [World.cell?, hb3]
    have z2 : w2.cell? ⟨w.heap.size, 2, none⟩ = some (.int .u16 0) := by simp [World.cell?, hb3]
    have z3 : w2.cell? ⟨w.heap.size, 3, none⟩ = some (.int .u16 0) := by simp [World.cell?, hb3]
    have z4 : w2.cell? ⟨w.heap.size, 4, none⟩ = some (.slice none 0 0) := by simp [World.cell?, hb3]
    have z5 : w2.cell? ⟨w.heap.size, 5, none⟩ = some (.int .i64 0) := by simp [World.cell?, hb3]
    have z6 : w2.cell? ⟨w.heap.size, 6, none⟩ = some (.int .i64 0) := by simp [World.cell?, hb3]
    have z7 : w2.cell? ⟨w.heap.size, 7, none⟩ = some (.int .i64 0) := by simp [World.cell?, hb3]
    have z8 : w2.cell? ⟨w.heap.size, 8, none⟩ = some (.int .i64 0) := by simp [World.cell?, hb3]
    have f0 : w2.frozen? ⟨w.heap.size, 0, none⟩ = false := by simp [World.frozen?, hb3]
    have f1 : w2.frozen? ⟨w.heap.size, 1, none⟩ = false := by simp [World.frozen?, hb3]
    have f2 : w2.frozen? ⟨w.heap.size, 2, none⟩ = false := by simp [World.frozen?, hb3]
    have f3 : w2.frozen? ⟨w.heap.size, 3, none⟩ = false := by simp [World.frozen?, hb3]
    have f4 : w2.frozen? ⟨w.heap.size, 4, none⟩ = false := by simp [World.frozen?, hb3]
    have f5 : w2.frozen? ⟨w.heap.size, 5, none⟩ = false := by simp [World.frozen?, hb3]
    have f6 : w2.frozen? ⟨w.heap.size, 6, none⟩ = false := by simp [World.frozen?, hb3]
    have f7 : w2.frozen? ⟨w.heap.size, 7, none⟩ = false := by simp [World.frozen?, hb3]
    have f8 : w2.frozen? ⟨w.heap.size, 8, none⟩ = false := by simp [World.frozen?, hb3]
    clear hno hB hown hb3
    go_wp2_with fail
    refine bodyPost_ret (v := .tuple #[.agg #[.int .i64 0, .string ⟨#[]⟩, .int .u16 0, .int .u16 0, .slice none 0 0, .int .i64 0, .int .i64 0, .int .i64 0, .int .i64 0], .bool false]) (by simp [results, Try.results22, go_sem, z0, z1, z2, z3, z4, z5, z6, z7, z8]) rfl ?_
    exact Fin.out _ ((((((((((ModS.refl (fun k => k = w.heap.size) _).set rfl _).set rfl _).set rfl _).set rfl _).set rfl _).set rfl _).set rfl _).set rfl _).set rfl _)
  · have hb3 := (hm.block _ (by omega) hown).trans HB1.out
    obtain ⟨A, cap, rfl⟩ := ho.shape
    have Fin := Lib.hid (fun w4 => get_fin (w4 := w4) (now := now) (k := keyL 0 (lst n) t q) H.out Hb1.out hz1 (.inr ⟨x, hx, hk, hn, _, rfl, ho, hca, hm⟩))
    unfold Ent.val at Fin ⊢
    have z0 : w2.cell? ⟨w.heap.size, 0, none⟩ = some (.int .i64 0) := by simp [World.cell?, hb3]
    have z1 : w2.cell? ⟨w.heap.size, 1, none⟩ = some (.string ⟨#[]⟩) := by simp [World.cell?, hb3]
    have z2 : w2.cell? ⟨w.heap.size, 2, none⟩ = some (.int .u16 0) := by simp [World.cell?, hb3]
    have z3 : w2.cell? ⟨w.heap.size, 3, none⟩ = some (.int .u16 0) := by simp [World.cell?, hb3]
    have z4 : w2.cell? ⟨w.heap.size, 4, none⟩ = some (.slice none 0 0) := by simp [World.cell?, hb3]
    have z5 : w2.cell? ⟨w.heap.size, 5, none⟩ = some (.int .i64 0) := by simp [World.cell?, hb3]
    have z6 : w2.cell? ⟨w.heap.size, 6, none⟩ = some (.int .i64 0) := by simp [World.cell?, hb3]
    have z7 : w2.cell? ⟨w.heap.size, 7, none⟩ = some (.int .i64 0) := by simp [World.cell?, hb3]
    have z8 : w2.cell? ⟨w.heap.size, 8, none⟩ = some (.int .i64 0) := by simp [World.cell?, hb3]
    have f0 : w2.frozen? ⟨w.heap.size, 0, none⟩ = false := by simp [World.frozen?, hb3]
    have f1 : w2.frozen? ⟨w.heap.size, 1, none⟩ = false := by simp [World.frozen?, hb3]
    have f2 : w2.frozen? ⟨w.heap.size, 2, none⟩ = false := by simp [World.frozen?, hb3]
    have f3 : w2.frozen? ⟨w.heap.size, 3, none⟩ = false := by simp [World.frozen?, hb3]
    have f4 : w2.frozen? ⟨w.heap.size, 4, none⟩ = false := by simp [World.frozen?, hb3]
    have f5 : w2.frozen? ⟨w.heap.size, 5, none⟩ = false := by simp [World.frozen?, hb3]
    have f6 : w2.frozen? ⟨w.heap.size, 6, none⟩ = false := by simp [World.frozen?, hb3]
    have f7 : w2.frozen? ⟨w.heap.size, 7, none⟩ = false := by simp [World.frozen?, hb3]
    have f8 : w2.frozen? ⟨w.heap.size, 8, none⟩ = false := by simp [World.frozen?, hb3]
    clear hx hk hn ho hca hm hown hb3
    go_wp2_with fail
    refine bodyPost_ret (v := .tuple #[.agg #[.int .i64 x.ent.kind, .string (bs x.ent.name), .int .u16 x.ent.t, .int .u16 x.ent.c, .slice A x.ent.recs.length cap, .int .i64 x.ent.til, .int .i64 x.ent.rank, .int .i64 x.ent.epoch, .int .i64 x.ent.source], .bool true]) (by simp [results, Try.results22, go_sem, z0, z1, z2, z3, z4, z5, z6, z7, z8]) rfl ?_
    exact Fin.out _ ((((((((((ModS.refl (fun k => k = w.heap.size) _).set rfl _).set rfl _).set rfl _).set rfl _).set rfl _).set rfl _).set rfl _).set rfl _).set rfl _)

set_option maxRecDepth 100000 in
set_option maxHeartbeats 1000000 in
theorem name_any (c : Ca) (n : ByteArray) (q : Int) (now : Int) (w : World) (h : CaAt w c) (hu : -9223372036854775808 ≤ c.uses ∧ c.uses < 9223372036854775807) (hs : n.size ≤ 1048576) (q0 : 0 ≤ q) (q1 : q ≤ 65535) :
    Calls Try.prog 25 #[.pointer (some ⟨c.cb, 0, none⟩), .string n, .int .u16 q, .int .i64 now] w fun r w' => Told w c (keyL 1 (lst n) 0 q) now r w' := by
  have hb0 : Below w.heap.size w (w.alloc (.cells #[.int .i64 0, .string ⟨#[]⟩, .int .u16 0, .int .u16 0, .slice none 0 0, .int .i64 0, .int .i64 0, .int .i64 0, .int .i64 0] 25)) := (Below.refl _ w).alloc (Nat.le_refl _) _
  have H := Lib.hid h
  have Hb0 := Lib.hid hb0
  clear h hb0
  go_enter Try.func25, Try.ntmps25
  go_wp2_with fail
  refine (keyOf_any 1 n 0 q _ (by omega) (by omega) (by omega) (by omega) (by omega)).mono ?_
  rintro e w1 ⟨rfl, h1⟩
  have hz1 := h1.size
  rw [World.size_alloc] at hz1
  have hb1 : w1.heap[w.heap.size]? = some (.cells #[.int .i64 0, .string ⟨#[]⟩, .int .u16 0, .int .u16 0, .slice none 0 0, .int .i64 0, .int .i64 0, .int .i64 0, .int .i64 0] 25 (0, 0)) := (h1.block _ (by simp)).trans (heap_alloc_new _ _)
  have Hb1 := Lib.hid (Hb0.out.trans (h1.mono (by simp)))
  have H1 := Lib.hid (H.out.below Hb1.out)
  have HB1 := Lib.hid hb1
  clear h1 hb1
  go_wp2_with fail
  refine (tell_any c (keyL 1 (lst n) 0 q) now w1 H1.out hu).mono ?_
  intro r w2 ht
  have hown : ¬ c.own w.heap.size := fun e => by have := (H.out.own_lt e).2; omega
  rcases ht with ⟨hno, rfl, hB⟩ | ⟨x, hx, hk, hn, rv', rfl, ho, hca, hm⟩
  · have hb3 := (hB.block _ (by omega)).trans HB1.out
    have Fin := Lib.hid (fun w4 => get_fin (w4 := w4) (now := now) (k := keyL 1 (lst n) 0 q) H.out Hb1.out hz1 (.inl ⟨hno, rfl, hB⟩))
    rw [zero_val] at Fin ⊢
    have z0 : w2.cell? ⟨w.heap.size, 0, none⟩ = some (.int .i64 0) := by simp [World.cell?, hb3]
    have z1 : w2.cell? ⟨w.heap.size, 1, none⟩ = some (.string ⟨#[]⟩) := by simp [World.cell?, hb3]
    have z2 : w2.cell? ⟨w.heap.size, 2, none⟩ = some (.int .u16 0) := by simp [World.cell?, hb3]
    have z3 : w2.cell? ⟨w.heap.size, 3, none⟩ = some (.int .u16 0) := by simp [World.cell?, hb3]
    have z4 : w2.cell? ⟨w.heap.size, 4, none⟩ = some (.slice none 0 0) := by simp [World.cell?, hb3]
    have z5 : w2.cell? ⟨w.heap.size, 5, none⟩ = some (.int .i64 0) := by simp [World.cell?, hb3]
    have z6 : w2.cell? ⟨w.heap.size, 6, none⟩ = some (.int .i64 0) := by simp [World.cell?, hb3]
    have z7 : w2.cell? ⟨w.heap.size, 7, none⟩ = some (.int .i64 0) := by simp [World.cell?, hb3]
    have z8 : w2.cell? ⟨w.heap.size, 8, none⟩ = some (.int .i64 0) := by simp [World.cell?, hb3]
    have f0 : w2.frozen? ⟨w.heap.size, 0, none⟩ = false := by simp [World.frozen?, hb3]
    have f1 : w2.frozen? ⟨w.heap.size, 1, none⟩ = false := by simp [World.frozen?, hb3]
    have f2 : w2.frozen? ⟨w.heap.size, 2, none⟩ = false := by simp [World.frozen?, hb3]
    have f3 : w2.frozen? ⟨w.heap.size, 3, none⟩ = false := by simp [World.frozen?, hb3]
    have f4 : w2.frozen? ⟨w.heap.size, 4, none⟩ = false := by simp [World.frozen?, hb3]
    have f5 : w2.frozen? ⟨w.heap.size, 5, none⟩ = false := by simp [World.frozen?, hb3]
    have f6 : w2.frozen? ⟨w.heap.size, 6, none⟩ = false := by simp [World.frozen?, hb3]
    have f7 : w2.frozen? ⟨w.heap.size, 7, none⟩ = false := by simp [World.frozen?, hb3]
    have f8 : w2.frozen? ⟨w.heap.size, 8, none⟩ = false := by simp [World.frozen?, hb3]
    clear hno hB hown hb3
    go_wp2_with fail
    refine bodyPost_ret (v := .tuple #[.agg #[.int .i64 0, .string ⟨#[]⟩, .int .u16 0, .int .u16 0, .slice none 0 0, .int .i64 0, .int .i64 0, .int .i64 0, .int .i64 0], .bool false]) (by simp [results, Try.results25, go_sem, z0, z1, z2, z3, z4, z5, z6, z7, z8]) rfl ?_
    exact Fin.out _ ((((((((((ModS.refl (fun k => k = w.heap.size) _).set rfl _).set rfl _).set rfl _).set rfl _).set rfl _).set rfl _).set rfl _).set rfl _).set rfl _)
  · have hb3 := (hm.block _ (by omega) hown).trans HB1.out
    obtain ⟨A, cap, rfl⟩ := ho.shape
    have Fin := Lib.hid (fun w4 => get_fin (w4 := w4) (now := now) (k := keyL 1 (lst n) 0 q) H.out Hb1.out hz1 (.inr ⟨x, hx, hk, hn, _, rfl, ho, hca, hm⟩))
    unfold Ent.val at Fin ⊢
    have z0 : w2.cell? ⟨w.heap.size, 0, none⟩ = some (.int .i64 0) := by simp [World.cell?, hb3]
    have z1 : w2.cell? ⟨w.heap.size, 1, none⟩ = some (.string ⟨#[]⟩) := by simp [World.cell?, hb3]
    have z2 : w2.cell? ⟨w.heap.size, 2, none⟩ = some (.int .u16 0) := by simp [World.cell?, hb3]
    have z3 : w2.cell? ⟨w.heap.size, 3, none⟩ = some (.int .u16 0) := by simp [World.cell?, hb3]
    have z4 : w2.cell? ⟨w.heap.size, 4, none⟩ = some (.slice none 0 0) := by simp [World.cell?, hb3]
    have z5 : w2.cell? ⟨w.heap.size, 5, none⟩ = some (.int .i64 0) := by simp [World.cell?, hb3]
    have z6 : w2.cell? ⟨w.heap.size, 6, none⟩ = some (.int .i64 0) := by simp [World.cell?, hb3]
    have z7 : w2.cell? ⟨w.heap.size, 7, none⟩ = some (.int .i64 0) := by simp [World.cell?, hb3]
    have z8 : w2.cell? ⟨w.heap.size, 8, none⟩ = some (.int .i64 0) := by simp [World.cell?, hb3]
    have f0 : w2.frozen? ⟨w.heap.size, 0, none⟩ = false := by simp [World.frozen?, hb3]
    have f1 : w2.frozen? ⟨w.heap.size, 1, none⟩ = false := by simp [World.frozen?, hb3]
    have f2 : w2.frozen? ⟨w.heap.size, 2, none⟩ = false := by simp [World.frozen?, hb3]
    have f3 : w2.frozen? ⟨w.heap.size, 3, none⟩ = false := by simp [World.frozen?, hb3]
    have f4 : w2.frozen? ⟨w.heap.size, 4, none⟩ = false := by simp [World.frozen?, hb3]
    have f5 : w2.frozen? ⟨w.heap.size, 5, none⟩ = false := by simp [World.frozen?, hb3]
    have f6 : w2.frozen? ⟨w.heap.size, 6, none⟩ = false := by simp [World.frozen?, hb3]
    have f7 : w2.frozen? ⟨w.heap.size, 7, none⟩ = false := by simp [World.frozen?, hb3]
    have f8 : w2.frozen? ⟨w.heap.size, 8, none⟩ = false := by simp [World.frozen?, hb3]
    clear hx hk hn ho hca hm hown hb3
    go_wp2_with fail
    refine bodyPost_ret (v := .tuple #[.agg #[.int .i64 x.ent.kind, .string (bs x.ent.name), .int .u16 x.ent.t, .int .u16 x.ent.c, .slice A x.ent.recs.length cap, .int .i64 x.ent.til, .int .i64 x.ent.rank, .int .i64 x.ent.epoch, .int .i64 x.ent.source], .bool true]) (by simp [results, Try.results25, go_sem, z0, z1, z2, z3, z4, z5, z6, z7, z8]) rfl ?_
    exact Fin.out _ ((((((((((ModS.refl (fun k => k = w.heap.size) _).set rfl _).set rfl _).set rfl _).set rfl _).set rfl _).set rfl _).set rfl _).set rfl _).set rfl _)
end Go.Proofs.Ytihfapnipifiiaa
/- The walks of cache.Get and Name of no cache. -/
namespace Go.Proofs.Ytihfapnipifiiaa
open Go Go.RowKit Go.Shelf

set_option maxRecDepth 100000 in
set_option maxHeartbeats 1000000 in
theorem get_nil (n : ByteArray) (t q : Int) (now : Int) (w : World) (hs : n.size ≤ 140737488355200) (t0 : 0 ≤ t) (t1 : t ≤ 65535) (q0 : 0 ≤ q) (q1 : q ≤ 65535) :
    Calls Try.prog 22 #[.pointer none, .string n, .int .u16 t, .int .u16 q, .int .i64 now] w fun r w' => r = .returned (.tuple #[zeroE.val (.slice none 0 0), .bool false]) ∧ Below w.heap.size w w' := by
  have hb0 : Below w.heap.size w (w.alloc (.cells #[.int .i64 0, .string ⟨#[]⟩, .int .u16 0, .int .u16 0, .slice none 0 0, .int .i64 0, .int .i64 0, .int .i64 0, .int .i64 0] 25)) := (Below.refl _ w).alloc (Nat.le_refl _) _
  have Hb0 := Lib.hid hb0
  clear hb0
  rw [zero_val]
  go_enter Try.func22, Try.ntmps22
  go_wp2_with fail
  refine (keyOf_any 0 n t q _ (by omega) (by omega) (by omega) (by omega) (by omega)).mono ?_
  rintro e w1 ⟨rfl, h1⟩
  have hz1 := h1.size
  rw [World.size_alloc] at hz1
  have hb1 : w1.heap[w.heap.size]? = some (.cells #[.int .i64 0, .string ⟨#[]⟩, .int .u16 0, .int .u16 0, .slice none 0 0, .int .i64 0, .int .i64 0, .int .i64 0, .int .i64 0] 25 (0, 0)) := (h1.block _ (by simp)).trans (heap_alloc_new _ _)
  have Hb1 := Lib.hid (Hb0.out.trans (h1.mono (by simp)))
  have HB1 := Lib.hid hb1
  clear h1 hb1
  go_wp2_with fail
  refine (tell_nil _ now w1).mono ?_
  rw [zero_val]
  rintro r w2 ⟨rfl, h2⟩
  have hb3 := (h2.block _ (by omega)).trans HB1.out
  have Hb2 := Lib.hid (Hb1.out.trans (h2.mono (by omega)))
  have hz2 := h2.size
  have z0 : w2.cell? ⟨w.heap.size, 0, none⟩ = some (.int .i64 0) := by simp [World.cell?, hb3]
  have z1 : w2.cell? ⟨w.heap.size, 1, none⟩ = some (.string ⟨#[]⟩) := by simp [World.cell?, hb3]
  have z2 : w2.cell? ⟨w.heap.size, 2, none⟩ = some (.int .u16 0) := by simp [World.cell?, hb3]
  have z3 : w2.cell? ⟨w.heap.size, 3, none⟩ = some (.int .u16 0) := by simp [World.cell?, hb3]
  have z4 : w2.cell? ⟨w.heap.size, 4, none⟩ = some (.slice none 0 0) := by simp [World.cell?, hb3]
  have z5 : w2.cell? ⟨w.heap.size, 5, none⟩ = some (.int .i64 0) := by simp [World.cell?, hb3]
  have z6 : w2.cell? ⟨w.heap.size, 6, none⟩ = some (.int .i64 0) := by simp [World.cell?, hb3]
  have z7 : w2.cell? ⟨w.heap.size, 7, none⟩ = some (.int .i64 0) := by simp [World.cell?, hb3]
  have z8 : w2.cell? ⟨w.heap.size, 8, none⟩ = some (.int .i64 0) := by simp [World.cell?, hb3]
  have f0 : w2.frozen? ⟨w.heap.size, 0, none⟩ = false := by simp [World.frozen?, hb3]
  have f1 : w2.frozen? ⟨w.heap.size, 1, none⟩ = false := by simp [World.frozen?, hb3]
  have f2 : w2.frozen? ⟨w.heap.size, 2, none⟩ = false := by simp [World.frozen?, hb3]
  have f3 : w2.frozen? ⟨w.heap.size, 3, none⟩ = false := by simp [World.frozen?, hb3]
  have f4 : w2.frozen? ⟨w.heap.size, 4, none⟩ = false := by simp [World.frozen?, hb3]
  have f5 : w2.frozen? ⟨w.heap.size, 5, none⟩ = false := by simp [World.frozen?, hb3]
  have f6 : w2.frozen? ⟨w.heap.size, 6, none⟩ = false := by simp [World.frozen?, hb3]
  have f7 : w2.frozen? ⟨w.heap.size, 7, none⟩ = false := by simp [World.frozen?, hb3]
  have f8 : w2.frozen? ⟨w.heap.size, 8, none⟩ = false := by simp [World.frozen?, hb3]
  clear h2 hb3
  go_wp2_with fail
  refine bodyPost_ret (v := .tuple #[.agg #[.int .i64 0, .string ⟨#[]⟩, .int .u16 0, .int .u16 0, .slice none 0 0, .int .i64 0, .int .i64 0, .int .i64 0, .int .i64 0], .bool false]) (by simp [results, Try.results22, go_sem, z0, z1, z2, z3, z4, z5, z6, z7, z8]) rfl ⟨rfl, ?_⟩
  exact ModS.below_of Hb2.out ((((((((((ModS.refl (fun k => k = w.heap.size) _).set rfl _).set rfl _).set rfl _).set rfl _).set rfl _).set rfl _).set rfl _).set rfl _).set rfl _) (by omega) (fun k hk => by omega)

set_option maxRecDepth 100000 in
set_option maxHeartbeats 1000000 in
theorem name_nil (n : ByteArray) (q : Int) (now : Int) (w : World) (hs : n.size ≤ 140737488355200) (q0 : 0 ≤ q) (q1 : q ≤ 65535) :
    Calls Try.prog 25 #[.pointer none, .string n, .int .u16 q, .int .i64 now] w fun r w' => r = .returned (.tuple #[zeroE.val (.slice none 0 0), .bool false]) ∧ Below w.heap.size w w' := by
  have hb0 : Below w.heap.size w (w.alloc (.cells #[.int .i64 0, .string ⟨#[]⟩, .int .u16 0, .int .u16 0, .slice none 0 0, .int .i64 0, .int .i64 0, .int .i64 0, .int .i64 0] 25)) := (Below.refl _ w).alloc (Nat.le_refl _) _
  have Hb0 := Lib.hid hb0
  clear hb0
  rw [zero_val]
  go_enter Try.func25, Try.ntmps25
  go_wp2_with fail
  refine (keyOf_any 1 n 0 q _ (by omega) (by omega) (by omega) (by omega) (by omega)).mono ?_
  rintro e w1 ⟨rfl, h1⟩
  have hz1 := h1.size
  rw [World.size_alloc] at hz1
  have hb1 : w1.heap[w.heap.size]? = some (.cells #[.int .i64 0, .string ⟨#[]⟩, .int .u16 0, .int .u16 0, .slice none 0 0, .int .i64 0, .int .i64 0, .int .i64 0, .int .i64 0] 25 (0, 0)) := (h1.block _ (by simp)).trans (heap_alloc_new _ _)
  have Hb1 := Lib.hid (Hb0.out.trans (h1.mono (by simp)))
  have HB1 := Lib.hid hb1
  clear h1 hb1
  go_wp2_with fail
  refine (tell_nil _ now w1).mono ?_
  rw [zero_val]
  rintro r w2 ⟨rfl, h2⟩
  have hb3 := (h2.block _ (by omega)).trans HB1.out
  have Hb2 := Lib.hid (Hb1.out.trans (h2.mono (by omega)))
  have hz2 := h2.size
  have z0 : w2.cell? ⟨w.heap.size, 0, none⟩ = some (.int .i64 0) := by simp [World.cell?, hb3]
  have z1 : w2.cell? ⟨w.heap.size, 1, none⟩ = some (.string ⟨#[]⟩) := by simp [World.cell?, hb3]
  have z2 : w2.cell? ⟨w.heap.size, 2, none⟩ = some (.int .u16 0) := by simp [World.cell?, hb3]
  have z3 : w2.cell? ⟨w.heap.size, 3, none⟩ = some (.int .u16 0) := by simp [World.cell?, hb3]
  have z4 : w2.cell? ⟨w.heap.size, 4, none⟩ = some (.slice none 0 0) := by simp [World.cell?, hb3]
  have z5 : w2.cell? ⟨w.heap.size, 5, none⟩ = some (.int .i64 0) := by simp [World.cell?, hb3]
  have z6 : w2.cell? ⟨w.heap.size, 6, none⟩ = some (.int .i64 0) := by simp [World.cell?, hb3]
  have z7 : w2.cell? ⟨w.heap.size, 7, none⟩ = some (.int .i64 0) := by simp [World.cell?, hb3]
  have z8 : w2.cell? ⟨w.heap.size, 8, none⟩ = some (.int .i64 0) := by simp [World.cell?, hb3]
  have f0 : w2.frozen? ⟨w.heap.size, 0, none⟩ = false := by simp [World.frozen?, hb3]
  have f1 : w2.frozen? ⟨w.heap.size, 1, none⟩ = false := by simp [World.frozen?, hb3]
  have f2 : w2.frozen? ⟨w.heap.size, 2, none⟩ = false := by simp [World.frozen?, hb3]
  have f3 : w2.frozen? ⟨w.heap.size, 3, none⟩ = false := by simp [World.frozen?, hb3]
  have f4 : w2.frozen? ⟨w.heap.size, 4, none⟩ = false := by simp [World.frozen?, hb3]
  have f5 : w2.frozen? ⟨w.heap.size, 5, none⟩ = false := by simp [World.frozen?, hb3]
  have f6 : w2.frozen? ⟨w.heap.size, 6, none⟩ = false := by simp [World.frozen?, hb3]
  have f7 : w2.frozen? ⟨w.heap.size, 7, none⟩ = false := by simp [World.frozen?, hb3]
  have f8 : w2.frozen? ⟨w.heap.size, 8, none⟩ = false := by simp [World.frozen?, hb3]
  clear h2 hb3
  go_wp2_with fail
  refine bodyPost_ret (v := .tuple #[.agg #[.int .i64 0, .string ⟨#[]⟩, .int .u16 0, .int .u16 0, .slice none 0 0, .int .i64 0, .int .i64 0, .int .i64 0, .int .i64 0], .bool false]) (by simp [results, Try.results25, go_sem, z0, z1, z2, z3, z4, z5, z6, z7, z8]) rfl ⟨rfl, ?_⟩
  exact ModS.below_of Hb2.out ((((((((((ModS.refl (fun k => k = w.heap.size) _).set rfl _).set rfl _).set rfl _).set rfl _).set rfl _).set rfl _).set rfl _).set rfl _).set rfl _) (by omega) (fun k hk => by omega)
end Go.Proofs.Ytihfapnipifiiaa
