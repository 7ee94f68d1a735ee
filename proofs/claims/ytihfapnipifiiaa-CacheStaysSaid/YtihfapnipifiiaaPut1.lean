/- What a put makes of a cache: a new item in the map and in the heap. -/
import Derived.Test.YtihfapnipifiiaaCache8
namespace Go.Proofs.Ytihfapnipifiiaa
open Go Go.RowKit Go.Shelf

/-- A cache behind a put. -/
def Ca.put (c : Ca) (x : It) (v' : Value) : Ca := { c with sv := v', its := upL (c.its ++ [x]) c.its.length, ord := c.ord ++ [x] }
/-- A new item that has yet to come into the cache. -/
structure Fresh (W : World) (c : Ca) (x : It) : Prop where
  item : ItemAt W x 0
  recs : RecsOwn W (c.cb + 1) x.rv x.ent.recs
  low : c.cb < x.blk
  new : ¬ c.own x.blk
  used : ∀ y ∈ c.its, y.used < x.used
  uses : x.used ≤ c.uses
  key : ∀ y ∈ c.its, y.ent.key ≠ x.ent.key
  ok : EntIn x.ent ∧ cchk x.ent = 0
  few : c.its.length < 1000000

/-- Another block than a map's lies still behind a store into the map. -/
theorem putObj_cells {W : World} {mb : Nat} {o : Obj} {its : List It} (hm : MapRow W mb its) {k : Nat} {cs : Array Value} {t : TypeId} {fr : Nat × Nat} (hk : W.heap[k]? = some (.cells cs t fr)) : (putObj W mb o).heap[k]? = W.heap[k]? := by
  obtain ⟨es, clk, hb, _⟩ := hm
  refine putObj_far hb k ?_
  rintro rfl
  rw [hb] at hk; cases hk
theorem put_map {W : World} {c : Ca} {x : It} {mb : Nat} {o : Obj} (h : CaAt W c) (hf : Fresh W c x) (hmv : c.mv = .map (some mb)) (hm : MapRow W mb c.its) :
    Stale (putObj W mb o) (c.cb + 1) ⟨c.cb, 2, none⟩ c.sv c.its ∧ ItemAt (putObj W mb o) x 0 ∧ (∀ y ∈ c.its, RecsOwn (putObj W mb o) (c.cb + 1) y.rv y.ent.recs) ∧ RecsOwn (putObj W mb o) (c.cb + 1) x.rv x.ent.recs ∧
      (putObj W mb o).heap[c.cb]? = W.heap[c.cb]? ∧ ModS c.own W (putObj W mb o) := by
  have hcb : (putObj W mb o).heap[c.cb]? = W.heap[c.cb]? := putObj_cells hm h.block
  refine ⟨⟨?_, ?_, ?_, ?_, by show c.cb < c.cb + 1; omega⟩, ?_, ?_, ?_, hcb, (ModS.refl _ _).putObj mb o (.inr (.inl hmv))⟩
  · exact (World.cell?_of_block hcb).trans h.cells.1.2.2.1
  · exact (World.frozen?_of_block hcb).trans (h.cells.2 2)
  · refine h.stale.same (fun k hk => ?_)
    rcases hk with hk | hk
    · obtain ⟨_, cur, h2⟩ := own_cells h.stale.own k hk
      exact putObj_cells hm h2
    · obtain ⟨y, hy, rfl⟩ := List.mem_map.1 hk
      obtain ⟨i, _, _, hi⟩ := h.item hy
      exact putObj_cells hm hi
  · intro hc
    obtain ⟨y, hy, e⟩ := List.mem_map.1 hc
    have := h.items y hy
    rw [e] at this; exact absurd this (Nat.lt_irrefl _)
  · exact hf.item.same (putObj_cells hm hf.item)
  · exact fun y hy => (h.recs y hy).same (fun k cur _ hk => putObj_cells hm hk)
  · exact hf.recs.same (fun k cur _ hk => putObj_cells hm hk)

theorem put_fin {W w2 w3 : World} {c : Ca} {x : It} {mb : Nat} {v' : Value} (h : CaAt W c) (hf : Fresh W c x) (hmv : c.mv = .map (some mb)) (hmlt : c.cb < mb)
    (hm2 : MapRow w2 mb (c.its ++ [x])) (hs2 : StaleV w2 (c.cb + 1) c.sv c.its) (hx2 : ItemAt w2 x 0) (hr2 : ∀ y ∈ c.its, RecsOwn w2 (c.cb + 1) y.rv y.ent.recs) (hrx : RecsOwn w2 (c.cb + 1) x.rv x.ent.recs)
    (hc2 : w2.heap[c.cb]? = W.heap[c.cb]?) (m2 : ModS c.own W w2)
    (hst : Stale w3 (c.cb + 1) ⟨c.cb, 2, none⟩ v' (upL (c.its ++ [x]) c.its.length)) (m3 : ModS (staleS ⟨c.cb, 2, none⟩ c.sv (c.its ++ [x])) w2 w3) (ho : ∀ k, v'.ownBlock = some k → c.sv.ownBlock = some k ∨ w2.heap.size ≤ k) (sb : SaBlk w2 w3 ⟨c.cb, 2, none⟩ v') :
    CaAt w3 (c.put x v') ∧ ModS (fun k => c.own k ∨ k = x.blk) W w3 ∧ (∀ k, (c.put x v').own k → c.own k ∨ k = x.blk ∨ x.rv.ownBlock = some k ∨ W.heap.size ≤ k) := by
  have hp : (upL (c.its ++ [x]) c.its.length).Perm (c.its ++ [x]) := upL_perm _ _
  have hmem : ∀ y ∈ upL (c.its ++ [x]) c.its.length, y ∈ c.its ∨ y = x := fun y hy => by
    have := hp.mem_iff.1 hy
    simpa using this
  -- what lies in a block of cells of another type is kept
  have keep : ∀ (k : Nat) (cs : Array Value) (t : TypeId), w2.heap[k]? = some (Obj.cells cs t (0, 0)) → t ≠ 91 → t ≠ 100 → t ≠ 103 → w3.heap[k]? = w2.heap[k]? := by
    intro k cs t hk h1 h2 h3
    refine m3.block k (Array.getElem?_eq_some_iff.1 hk).1 ?_
    rintro (e | e | e)
    · have e' : k = c.cb := e
      subst e'
      rw [hc2, h.block] at hk; injection hk with hk; injection hk with _ hk; exact h1 hk.symm
    · obtain ⟨_, cs', h4⟩ := own_cells hs2.own k e
      rw [h4] at hk; injection hk with hk; injection hk with _ hk; exact h2 hk.symm
    · rw [List.map_append, List.mem_append] at e
      rcases e with e | e
      · obtain ⟨y, hy, rfl⟩ := List.mem_map.1 e
        obtain ⟨i, hi, rfl⟩ := List.getElem_of_mem hy
        have h4 := hs2.items.1 i _ (List.getElem?_eq_getElem hi)
        unfold ItemAt at h4
        rw [h4] at hk; injection hk with hk; injection hk with _ hk; exact h3 hk.symm
      · have e' : k = x.blk := by simpa using e
        subst e'
        unfold ItemAt at hx2
        rw [hx2] at hk; injection hk with hk; injection hk with _ hk; exact h3 hk.symm
  have keepM : w3.heap[mb]? = w2.heap[mb]? := by
    obtain ⟨es, clk, hb, _⟩ := hm2
    refine m3.block mb (Array.getElem?_eq_some_iff.1 hb).1 ?_
    rintro (e | e | e)
    · have e' : mb = c.cb := e
      omega
    · obtain ⟨_, cs', h4⟩ := own_cells hs2.own mb e
      rw [h4] at hb; cases hb
    · rw [List.map_append, List.mem_append] at e
      rcases e with e | e
      · obtain ⟨y, hy, e⟩ := List.mem_map.1 e
        obtain ⟨i, hi, rfl⟩ := List.getElem_of_mem hy
        have h4 := hs2.items.1 i _ (List.getElem?_eq_getElem hi)
        unfold ItemAt at h4
        rw [e, hb] at h4; cases h4
      · have e' : mb = x.blk := by simpa using e
        subst e'
        unfold ItemAt at hx2
        rw [hx2] at hb; cases hb
  have hsz := m2.size
  refine ⟨?_, ?_, ?_⟩
  · refine { block := ?_, map := .inr ⟨mb, hmv, hmlt, (hm2.perm hp.symm).same keepM⟩, stale := hst.st, items := ?_, recs := ?_, heap := ?_, perm := ?_, sorted := ?_, used := ?_, oks := ?_, few := ?_ }
    · refine Eq.trans sb ?_
      simp [World.setCell, Array.getElem?_modify, hc2, h.block, Ca.put]
    · intro y hy
      rcases hmem y hy with hy | rfl
      · exact h.items y hy
      · exact hf.low
    · intro y hy
      rcases hmem y hy with hy | rfl
      · exact (hr2 y hy).same (fun k cur _ hk => keep k cur _ hk (by decide) (by decide) (by decide))
      · exact hrx.same (fun k cur _ hk => keep k cur _ hk (by decide) (by decide) (by decide))
    · have h1 := push_heap x h.heap
      have h2 : (upL (c.its ++ [x]) c.its.length).length = c.its.length + 1 := by rw [hp.length_eq]; simp
      show HeapN (upL (c.its ++ [x]) c.its.length) (upL (c.its ++ [x]) c.its.length).length
      rw [h2]; exact h1
    · exact (h.perm.append_right [x]).trans hp.symm
    · show (c.ord ++ [x]).Pairwise _
      rw [List.pairwise_append]
      refine ⟨h.sorted, List.pairwise_singleton _ _, ?_⟩
      intro a ha b hb
      have hb' : b = x := by simpa using hb
      rw [hb']
      exact hf.used a (h.perm.mem_iff.1 ha)
    · intro y hy
      rcases hmem y hy with hy | rfl
      · exact h.used y hy
      · exact hf.uses
    · intro y hy
      rcases hmem y hy with hy | rfl
      · exact h.oks y hy
      · exact hf.ok
    · show (upL (c.its ++ [x]) c.its.length).length ≤ _
      rw [hp.length_eq]
      have := hf.few
      simp; omega
  · refine (m2.mono (fun k hk => .inl hk)).comp m3 ?_
    rintro k hk (e | e | e)
    · exact .inl (.inl e)
    · exact .inl (.inr (.inr (.inl e)))
    · rw [List.map_append, List.mem_append] at e
      rcases e with e | e
      · exact .inl (.inr (.inr (.inr (.inl e))))
      · exact .inr (by simpa using e)
  · rintro k (e | e | e | e | ⟨y, hy, e⟩)
    · exact .inl (.inl e)
    · exact .inl (.inr (.inl e))
    · rcases ho k e with e | e
      · exact .inl (.inr (.inr (.inl e)))
      · exact .inr (.inr (.inr (by omega)))
    · obtain ⟨y, hy, rfl⟩ := List.mem_map.1 e
      rcases hmem y hy with hy | rfl
      · exact .inl (.inr (.inr (.inr (.inl (List.mem_map.2 ⟨y, hy, rfl⟩)))))
      · exact .inr (.inl rfl)
    · rcases hmem y hy with hy | rfl
      · exact .inl (.inr (.inr (.inr (.inr ⟨y, hy, e⟩))))
      · exact .inr (.inr (.inl e))
end Go.Proofs.Ytihfapnipifiiaa
