/- A use of an item; the walks of cache.tell, Get, Name. -/
import Derived.Test.YtihfapnipifiiaaCache4
namespace Go.Proofs.Ytihfapnipifiiaa
open Go Go.RowKit Go.Shelf

/-- An item that is used. -/
def useF (b : Nat) (u : Int) (y : It) : It := if y.blk = b then { y with used := u } else y
theorem useF_blk (b : Nat) (u : Int) (y : It) : (useF b u y).blk = y.blk := by unfold useF; split <;> rfl
theorem useF_ent (b : Nat) (u : Int) (y : It) : (useF b u y).ent = y.ent := by unfold useF; split <;> rfl
theorem useF_rv (b : Nat) (u : Int) (y : It) : (useF b u y).rv = y.rv := by unfold useF; split <;> rfl
theorem useF_ptr (b : Nat) (u : Int) (y : It) : (useF b u y).ptr = y.ptr := by unfold It.ptr; rw [useF_blk]
theorem useF_map (b : Nat) (u : Int) (l : List It) : (l.map (useF b u)).map It.blk = l.map It.blk := by rw [List.map_map]; exact List.map_congr_left (fun y _ => useF_blk b u y)
/-- A cache behind the use of an item. -/
def Ca.use (c : Ca) (x : It) : Ca := { c with uses := c.uses + 1, its := c.its.map (useF x.blk (c.uses + 1)), ord := c.ord.filter (fun y => y.blk != x.blk) ++ [{ x with used := c.uses + 1 }] }

theorem use_at {W W' : World} {c : Ca} {x : It} (h : CaAt W c) (hx : x ∈ c.its) (hW : W'.heap = ((W.setCell ⟨c.cb, 3, none⟩ (.int .i64 (c.uses + 1))).setCell ⟨x.blk, 10, none⟩ (.int .i64 (c.uses + 1))).heap) : CaAt W' (c.use x) := by
  have hxb := h.items x hx
  have far : ∀ k, k ≠ c.cb → k ≠ x.blk → W'.heap[k]? = W.heap[k]? := fun k h1 h2 => by
    rw [hW]
    exact (Below.heap_setCell _ _ _ _ h2).trans (Below.heap_setCell _ _ _ _ h1)
  have hn := h.stale.items.2
  have hit : ∀ i y, c.its[i]? = some y → ItemAt W' (useF x.blk (c.uses + 1) y) i := by
    intro i y hy
    have hyi := h.stale.items.1 i y hy
    have hym := List.mem_of_getElem? hy
    have hyb := h.items y hym
    by_cases e : y.blk = x.blk
    · have : y = x := blk_eq hn hym hx e
      subst this
      have e2 : useF y.blk (c.uses + 1) y = { y with used := c.uses + 1 } := by unfold useF; rw [if_pos rfl]
      rw [e2]
      have h1 : ItemAt (W.setCell ⟨c.cb, 3, none⟩ (.int .i64 (c.uses + 1))) y i := hyi.same (Below.heap_setCell _ _ _ _ (by show y.blk ≠ c.cb; omega))
      exact (h1.setUsed (c.uses + 1)).same (by rw [hW])
    · have e2 : useF x.blk (c.uses + 1) y = y := by unfold useF; rw [if_neg e]
      rw [e2]
      exact hyi.same (far _ (by omega) e)
  have hits : ∀ (i : Nat) (y' : It), (c.its.map (useF x.blk (c.uses + 1)))[i]? = some y' → ∃ y, c.its[i]? = some y ∧ y' = useF x.blk (c.uses + 1) y := by
    intro i y' hy
    rw [List.getElem?_map] at hy
    cases hc : c.its[i]? with
    | none => rw [hc] at hy; cases hy
    | some y => rw [hc] at hy; cases hy; exact ⟨y, rfl, rfl⟩
  have hmem : ∀ y' ∈ c.its.map (useF x.blk (c.uses + 1)), ∃ y ∈ c.its, y' = useF x.blk (c.uses + 1) y := fun y' hy => by
    obtain ⟨y, hy1, rfl⟩ := List.mem_map.1 hy
    exact ⟨y, hy1, rfl⟩
  have cellT : ∀ (k : Nat) (cs : Array Value) (t : TypeId), W.heap[k]? = some (Obj.cells cs t (0, 0)) → t ≠ 91 → t ≠ 103 → W'.heap[k]? = W.heap[k]? := by
    intro k cs t hk h1 h2
    refine far k ?_ ?_
    · rintro rfl; rw [h.block] at hk; injection hk with hk; injection hk with _ hk; exact h1 hk.symm
    · rintro rfl
      obtain ⟨i, _, _, hi⟩ := h.item hx
      unfold ItemAt at hi
      rw [hi] at hk; injection hk with hk; injection hk with _ hk; exact h2 hk.symm
  refine { block := ?_, map := ?_, stale := ?_, items := ?_, recs := ?_, heap := ?_, perm := ?_, sorted := ?_, used := ?_, oks := ?_, few := ?_ }
  · have hb := h.block
    rw [hW]
    refine (Below.heap_setCell _ _ _ _ (by show c.cb ≠ x.blk; omega)).trans ?_
    simp [World.setCell, Array.getElem?_modify, hb, Ca.use]
  · rcases h.map with ⟨_, e⟩ | ⟨mb, e, hlt, hm⟩
    · rw [e] at hx; cases hx
    · refine .inr ⟨mb, e, hlt, ?_⟩
      have hmf : W'.heap[mb]? = W.heap[mb]? := by
        refine far mb (by omega) ?_
        rintro rfl
        obtain ⟨i, _, _, hi⟩ := h.item hx
        obtain ⟨es, clk, hb, _⟩ := hm
        unfold ItemAt at hi
        rw [hi] at hb; cases hb
      refine (hm.same hmf).alike ?_
      show _ = (c.its.map (useF x.blk (c.uses + 1))).map It.ent2
      rw [List.map_map]
      refine List.map_congr_left (fun y _ => ?_)
      show y.ent2 = (useF x.blk (c.uses + 1) y).ent2
      unfold It.ent2; rw [useF_ent, useF_ptr]
  · show StaleV W' (c.cb + 1) c.sv (c.its.map (useF x.blk (c.uses + 1)))
    rcases h.stale with ⟨_, e⟩ | ⟨g, cap, e, hg, ⟨cur, r1, r2, r3⟩, _, _, hle, hmost⟩
    · rw [e] at hx; cases hx
    · refine .inr ⟨g, cap, by rw [e, List.length_map], hg, ⟨⟨cur, (cellT g cur _ r1 (by decide) (by decide)).trans r1, r2, fun i hi => ?_⟩, ?_, ?_, by rw [List.length_map]; exact hle, hmost⟩⟩
      · rw [List.length_map] at hi
        rw [r3 i hi]
        dsimp only
        rw [List.getElem?_map]
        obtain ⟨y, hy⟩ := get_of_lt hi
        rw [hy]
        show some y.ptr = some (useF x.blk (c.uses + 1) y).ptr
        rw [useF_ptr]
      · intro i y' hy
        obtain ⟨y, hy1, rfl⟩ := hits i y' hy
        exact hit i y hy1
      · rw [useF_map]; exact hn
  · intro y' hy
    obtain ⟨y, hm, rfl⟩ := hmem y' hy
    rw [useF_blk]; exact h.items y hm
  · intro y' hy
    obtain ⟨y, hm, rfl⟩ := hmem y' hy
    rw [useF_rv, useF_ent]
    exact (h.recs y hm).same (fun k cur _ hk => cellT k cur _ hk (by decide) (by decide))
  · intro k k0 k1
    have hu : ∀ j, untilAt (c.its.map (useF x.blk (c.uses + 1))) j = untilAt c.its j := by
      intro j
      unfold untilAt
      rw [List.getElem?_map]
      cases c.its[j]? with
      | none => rfl
      | some y => show ((useF x.blk (c.uses + 1) y).ent.til) = _; rw [useF_ent]; rfl
    have h1 := h.heap k k0 (by have : k < (c.its.map (useF x.blk (c.uses + 1))).length := k1; rw [List.length_map] at this; exact this)
    show untilAt (c.its.map _) _ ≤ untilAt (c.its.map _) _
    rw [hu, hu]; exact h1
  · show (c.ord.filter (fun (y : It) => y.blk != x.blk) ++ [{ x with used := c.uses + 1 }]).Perm (c.its.map (useF x.blk (c.uses + 1)))
    have hxo : x ∈ c.ord := h.perm.mem_iff.2 hx
    have hno := h.nodup
    refine List.Perm.trans ?_ (h.perm.map _)
    obtain ⟨s, t, hst⟩ := List.append_of_mem hxo
    rw [hst] at hno ⊢
    rw [List.map_append, List.map_cons, List.nodup_append] at hno
    obtain ⟨h1, h2, h3⟩ := hno
    rw [List.nodup_cons] at h2
    have hs : x.blk ∉ s.map It.blk := fun h => h3 _ h _ (List.mem_cons_self) rfl
    have hid : ∀ l : List It, x.blk ∉ l.map It.blk → l.map (useF x.blk (c.uses + 1)) = l := by
      intro l hl
      conv => rhs; rw [← List.map_id l]
      refine List.map_congr_left (fun y hy => ?_)
      unfold useF
      rw [if_neg (fun e => hl (List.mem_map.2 ⟨y, hy, e⟩))]; rfl
    rw [List.filter_append, List.filter_cons_of_neg (by simp), filter_blk h2.1, filter_blk hs, List.map_append, List.map_cons, hid s hs, hid t h2.1]
    have e2 : useF x.blk (c.uses + 1) x = { x with used := c.uses + 1 } := by unfold useF; rw [if_pos rfl]
    rw [e2, List.append_assoc]
    exact List.Perm.append_left s (List.perm_append_singleton _ t)
  · show (c.ord.filter (fun (y : It) => y.blk != x.blk) ++ [{ x with used := c.uses + 1 }]).Pairwise _
    rw [List.pairwise_append]
    refine ⟨h.sorted.filter _, List.pairwise_singleton _ _, ?_⟩
    intro a ha b hb
    have hb' : b = { x with used := c.uses + 1 } := by simpa using hb
    rw [hb']
    have := h.used a (h.perm.mem_iff.1 (List.mem_filter.1 ha).1)
    show a.used < c.uses + 1
    omega
  · intro y' hy
    obtain ⟨y, hm, rfl⟩ := hmem y' hy
    have := h.used y hm
    show (useF x.blk (c.uses + 1) y).used ≤ c.uses + 1
    unfold useF; split
    · exact Int.le_refl _
    · omega
  · intro y' hy
    obtain ⟨y, hm, rfl⟩ := hmem y' hy
    rw [useF_ent]; exact h.oks y hm
  · show (c.its.map _).length ≤ _
    rw [List.length_map]; exact h.few
theorem use_own {c : Ca} {x : It} {k : Nat} (h : (c.use x).own k) : c.own k := by
  rcases h with e | e | e | e | ⟨y, hy, e⟩
  · exact .inl e
  · exact .inr (.inl e)
  · exact .inr (.inr (.inl e))
  · have e' : k ∈ (c.its.map (useF x.blk (c.uses + 1))).map It.blk := e
    rw [useF_map] at e'
    exact .inr (.inr (.inr (.inl e')))
  · obtain ⟨z, hz, rfl⟩ := List.mem_map.1 (show y ∈ c.its.map (useF x.blk (c.uses + 1)) from hy)
    rw [useF_rv] at e
    exact .inr (.inr (.inr (.inr ⟨z, hz, e⟩)))
end Go.Proofs.Ytihfapnipifiiaa
