/- What a put makes of a cache: a new item in the map and in the heap. The walk of cache.Put. -/
import Derived.Test.YtihfapnipifiiaaCache
import Derived.Deep.DeepCutAuto
import Derived.Deep.RegionHeld3
import Derived.Lib.MinMax
set_option linter.unusedVariables false
set_option linter.unusedSimpArgs false
/- What a put makes of a cache: a new item in the map and in the heap. -/
namespace Go.Proofs.Ytihfapnipifiiaa
open Go Go.RowKit Go.Shelf

/-- A cache behind a put. -/
def Ca.put (c : Ca) (x : It) (v' : Value) : Ca := { c with sv := v', its := upL (c.its ++ [x]) c.its.length, ord := c.ord ++ [x] }
/-- A new item that has yet to come into the cache. -/
structure Fresh (W : World) (c : Ca) (x : It) : Prop where
  item : ItemAt W x 0
  recs : RecsOwn W (c.cb + 1) x.rv x.ent.recs
  low : c.cb < x.blk
  new : ¬ c.own x.blk
  used : ∀ y ∈ c.its, y.used < x.used
  uses : x.used ≤ c.uses
  key : ∀ y ∈ c.its, y.ent.key ≠ x.ent.key
  ok : EntIn x.ent ∧ cchk x.ent = 0
  few : c.its.length < 1000000

/-- Another block than a map's lies still behind a store into the map. -/
theorem putObj_cells {W : World} {mb : Nat} {o : Obj} {its : List It} (hm : MapRow W mb its) {k : Nat} {cs : Array Value} {t : TypeId} {fr : Nat × Nat} (hk : W.heap[k]? = some (.cells cs t fr)) : (putObj W mb o).heap[k]? = W.heap[k]? := by
  obtain ⟨es, clk, hb, _⟩ := hm
  refine putObj_far hb k ?_
  rintro rfl
  rw [hb] at hk; cases hk
theorem put_map {W : World} {c : Ca} {x : It} {mb : Nat} {o : Obj} (h : CaAt W c) (hf : Fresh W c x) (hmv : c.mv = .map (some mb)) (hm : MapRow W mb c.its) :
    Stale (putObj W mb o) (c.cb + 1) ⟨c.cb, 2, none⟩ c.sv c.its ∧ ItemAt (putObj W mb o) x 0 ∧ (∀ y ∈ c.its, RecsOwn (putObj W mb o) (c.cb + 1) y.rv y.ent.recs) ∧ RecsOwn (putObj W mb o) (c.cb + 1) x.rv x.ent.recs ∧
      (putObj W mb o).heap[c.cb]? = W.heap[c.cb]? ∧ ModS c.own W (putObj W mb o) := by
  have hcb : (putObj W mb o).heap[c.cb]? = W.heap[c.cb]? := putObj_cells hm h.block
  refine ⟨⟨?_, ?_, ?_, ?_, by show c.cb < c.cb + 1; omega⟩, ?_, ?_, ?_, hcb, (ModS.refl _ _).putObj mb o (.inr (.inl hmv))⟩
  · exact (World.cell?_of_block hcb).trans h.cells.1.2.2.1
  · exact (World.frozen?_of_block hcb).trans (h.cells.2 2)
  · refine h.stale.same (fun k hk => ?_)
    rcases hk with hk | hk
    · obtain ⟨_, cur, h2⟩ := own_cells h.stale.own k hk
      exact putObj_cells hm h2
    · obtain ⟨y, hy, rfl⟩ := List.mem_map.1 hk
      obtain ⟨i, _, _, hi⟩ := h.item hy
      exact putObj_cells hm hi
  · intro hc
    obtain ⟨y, hy, e⟩ := List.mem_map.1 hc
    have := h.items y hy
    rw [e] at this; exact absurd this (Nat.lt_irrefl _)
  · exact hf.item.same (putObj_cells hm hf.item)
  · exact fun y hy => (h.recs y hy).same (fun k cur _ hk => putObj_cells hm hk)
  · exact hf.recs.same (fun k cur _ hk => putObj_cells hm hk)

theorem put_fin {W w2 w3 : World} {c : Ca} {x : It} {mb : Nat} {v' : Value} (h : CaAt W c) (hf : Fresh W c x) (hmv : c.mv = .map (some mb)) (hmlt : c.cb < mb)
    (hm2 : MapRow w2 mb (c.its ++ [x])) (hs2 : StaleV w2 (c.cb + 1) c.sv c.its) (hx2 : ItemAt w2 x 0) (hr2 : ∀ y ∈ c.its, RecsOwn w2 (c.cb + 1) y.rv y.ent.recs) (hrx : RecsOwn w2 (c.cb + 1) x.rv x.ent.recs)
    (hc2 : w2.heap[c.cb]? = W.heap[c.cb]?) (m2 : ModS c.own W w2)
    (hst : Stale w3 (c.cb + 1) ⟨c.cb, 2, none⟩ v' (upL (c.its ++ [x]) c.its.length)) (m3 : ModS (staleS ⟨c.cb, 2, none⟩ c.sv (c.its ++ [x])) w2 w3) (ho : ∀ k, v'.ownBlock = some k → c.sv.ownBlock = some k ∨ w2.heap.size ≤ k) (sb : SaBlk w2 w3 ⟨c.cb, 2, none⟩ v') :
    CaAt w3 (c.put x v') ∧ ModS (fun k => c.own k ∨ k = x.blk) W w3 ∧ (∀ k, (c.put x v').own k → c.own k ∨ k = x.blk ∨ x.rv.ownBlock = some k ∨ W.heap.size ≤ k) := by
  have hp : (upL (c.its ++ [x]) c.its.length).Perm (c.its ++ [x]) := upL_perm _ _
  have hmem : ∀ y ∈ upL (c.its ++ [x]) c.its.length, y ∈ c.its ∨ y = x := fun y hy => by
    have := hp.mem_iff.1 hy
    simpa using this
  -- what lies in a block of cells of another type is kept
  have keep : ∀ (k : Nat) (cs : Array Value) (t : TypeId), w2.heap[k]? = some (Obj.cells cs t (0, 0)) → t ≠ 91 → t ≠ 100 → t ≠ 103 → w3.heap[k]? = w2.heap[k]? := by
    intro k cs t hk h1 h2 h3
    refine m3.block k (Array.getElem?_eq_some_iff.1 hk).1 ?_
    rintro (e | e | e)
    · have e' : k = c.cb := e
      subst e'
      rw [hc2, h.block] at hk; injection hk with hk; injection hk with _ hk; exact h1 hk.symm
    · obtain ⟨_, cs', h4⟩ := own_cells hs2.own k e
      rw [h4] at hk; injection hk with hk; injection hk with _ hk; exact h2 hk.symm
    · rw [List.map_append, List.mem_append] at e
      rcases e with e | e
      · obtain ⟨y, hy, rfl⟩ := List.mem_map.1 e
        obtain ⟨i, hi, rfl⟩ := List.getElem_of_mem hy
        have h4 := hs2.items.1 i _ (List.getElem?_eq_getElem hi)
        unfold ItemAt at h4
        rw [h4] at hk; injection hk with hk; injection hk with _ hk; exact h3 hk.symm
      · have e' : k = x.blk := by simpa using e
        subst e'
        unfold ItemAt at hx2
        rw [hx2] at hk; injection hk with hk; injection hk with _ hk; exact h3 hk.symm
  have keepM : w3.heap[mb]? = w2.heap[mb]? := by
    obtain ⟨es, clk, hb, _⟩ := hm2
    refine m3.block mb (Array.getElem?_eq_some_iff.1 hb).1 ?_
    rintro (e | e | e)
    · have e' : mb = c.cb := e
      omega
    · obtain ⟨_, cs', h4⟩ := own_cells hs2.own mb e
      rw [h4] at hb; cases hb
    · rw [List.map_append, List.mem_append] at e
      rcases e with e | e
      · obtain ⟨y, hy, e⟩ := List.mem_map.1 e
        obtain ⟨i, hi, rfl⟩ := List.getElem_of_mem hy
        have h4 := hs2.items.1 i _ (List.getElem?_eq_getElem hi)
        unfold ItemAt at h4
        rw [e, hb] at h4; cases h4
      · have e' : mb = x.blk := by simpa using e
        subst e'
        unfold ItemAt at hx2
        rw [hx2] at hb; cases hb
  have hsz := m2.size
  refine ⟨?_, ?_, ?_⟩
  · refine { block := ?_, map := .inr ⟨mb, hmv, hmlt, (hm2.perm hp.symm).same keepM⟩, stale := hst.st, items := ?_, recs := ?_, heap := ?_, perm := ?_, sorted := ?_, used := ?_, oks := ?_, few := ?_ }
    · refine Eq.trans sb ?_
      simp [World.setCell, Array.getElem?_modify, hc2, h.block, Ca.put]
    · intro y hy
      rcases hmem y hy with hy | rfl
      · exact h.items y hy
      · exact hf.low
    · intro y hy
      rcases hmem y hy with hy | rfl
      · exact (hr2 y hy).same (fun k cur _ hk => keep k cur _ hk (by decide) (by decide) (by decide))
      · exact hrx.same (fun k cur _ hk => keep k cur _ hk (by decide) (by decide) (by decide))
    · have h1 := push_heap x h.heap
      have h2 : (upL (c.its ++ [x]) c.its.length).length = c.its.length + 1 := by rw [hp.length_eq]; simp
      show HeapN (upL (c.its ++ [x]) c.its.length) (upL (c.its ++ [x]) c.its.length).length
      rw [h2]; exact h1
    · exact (h.perm.append_right [x]).trans hp.symm
    · show (c.ord ++ [x]).Pairwise _
      rw [List.pairwise_append]
      refine ⟨h.sorted, List.pairwise_singleton _ _, ?_⟩
      intro a ha b hb
      have hb' : b = x := by simpa using hb
      rw [hb']
      exact hf.used a (h.perm.mem_iff.1 ha)
    · intro y hy
      rcases hmem y hy with hy | rfl
      · exact h.used y hy
      · exact hf.uses
    · intro y hy
      rcases hmem y hy with hy | rfl
      · exact h.oks y hy
      · exact hf.ok
    · show (upL (c.its ++ [x]) c.its.length).length ≤ _
      rw [hp.length_eq]
      have := hf.few
      simp; omega
  · refine (m2.mono (fun k hk => .inl hk)).comp m3 ?_
    rintro k hk (e | e | e)
    · exact .inl (.inl e)
    · exact .inl (.inr (.inr (.inl e)))
    · rw [List.map_append, List.mem_append] at e
      rcases e with e | e
      · exact .inl (.inr (.inr (.inr (.inl e))))
      · exact .inr (by simpa using e)
  · rintro k (e | e | e | e | ⟨y, hy, e⟩)
    · exact .inl (.inl e)
    · exact .inl (.inr (.inl e))
    · rcases ho k e with e | e
      · exact .inl (.inr (.inr (.inl e)))
      · exact .inr (.inr (.inr (by omega)))
    · obtain ⟨y, hy, rfl⟩ := List.mem_map.1 e
      rcases hmem y hy with hy | rfl
      · exact .inl (.inr (.inr (.inr (.inl (List.mem_map.2 ⟨y, hy, rfl⟩)))))
      · exact .inr (.inl rfl)
    · rcases hmem y hy with hy | rfl
      · exact .inl (.inr (.inr (.inr (.inr ⟨y, hy, e⟩))))
      · exact .inr (.inr (.inl e))
end Go.Proofs.Ytihfapnipifiiaa
/- The walk of cache.Put. -/
namespace Go.Proofs.Ytihfapnipifiiaa
open Go Go.RowKit Go.Shelf

set_option maxRecDepth 100000 in
theorem put_nil (e : Ent) (rv : Value) (now : Int) (w : World) :
    Calls Try.prog 20 #[.pointer none, e.val rv, .int .i64 now] w fun r w' => r = .returned (.bool false) ∧ Below w.heap.size w w' := by
  unfold Ent.val
  go_enter Try.func20, Try.ntmps20
  go_wp2
  go_ret
  exact ⟨rfl, (Below.refl _ w).alloc (Nat.le_refl _) _⟩

theorem After.below {w w' : World} {c : Ca} (h : CaAt w c) (hb : Below w.heap.size w w') : After w c w' c := ⟨h.below hb, rfl, rfl, (ModS.refl _ _).below hb, fun _ hk => .inl hk⟩
theorem filter_key {W : World} {c : Ca} {x : It} (h : CaAt W c) (hx : x ∈ c.its) : c.ord.filter (fun y => y.blk != x.blk) = c.ord.filter (fun y => y.ent.key != x.ent.key) := by
  refine List.filter_congr (fun y hy => ?_)
  have hy' := h.perm.mem_iff.1 hy
  by_cases e : y.ent.key = x.ent.key
  · rw [h.key_one hy' hx e]; simp
  · have h1 : (y.ent.key != x.ent.key) = true := bne_iff_ne.2 e
    have h2 : (y.blk != x.blk) = true := bne_iff_ne.2 (fun q => e (by rw [blk_eq h.stale.items.2 hy' hx q]))
    rw [h1, h2]
/-- A cache that is given its map. -/
theorem mkMap_at {W W' : World} {c : Ca} (h : CaAt W c) (hits : c.its = []) (hW : W' = (W.setCell ⟨c.cb, 1, none⟩ (.map (some W.heap.size))).alloc (.map #[] 0)) : After W c W' { c with mv := .map (some W.heap.size) } := by
  have hlt := h.lt
  have hz : (W.setCell ⟨c.cb, 1, none⟩ (.map (some W.heap.size))).heap.size = W.heap.size := by simp [World.setCell]
  have m : ModS c.own W W' := by rw [hW]; exact ((ModS.refl c.own W).set (p := ⟨c.cb, 1, none⟩) (.inl rfl) _).alloc _
  have hord : c.ord = [] := by have := h.perm; rw [hits] at this; exact List.Perm.eq_nil this
  have hs : ∀ k, c.sv.ownBlock = some k → W'.heap[k]? = W.heap[k]? := by
    intro k hk
    obtain ⟨h1, cur, h2⟩ := own_cells h.stale.own k hk
    have h3 := (Array.getElem?_eq_some_iff.1 h2).1
    rw [hW]
    exact (Below.heap_alloc _ _ _ (by rw [hz]; exact h3)).trans (Below.heap_setCell _ _ _ _ (by show k ≠ c.cb; omega))
  refine ⟨{ block := ?_, map := ?_, stale := ?_, items := ?_, recs := ?_, heap := h.heap, perm := h.perm, sorted := h.sorted, used := h.used, oks := h.oks, few := h.few }, rfl, rfl, m, ?_⟩
  · have hb := h.block
    rw [hW]
    refine (Below.heap_alloc _ _ _ (by rw [hz]; exact hlt)).trans ?_
    simp [World.setCell, Array.getElem?_modify, hb]
  · refine .inr ⟨W.heap.size, rfl, hlt, #[], 0, ?_, MapKept.stamped_empty 0, ?_⟩
    · rw [hW]
      have := heap_alloc_new (W.setCell ⟨c.cb, 1, none⟩ (.map (some W.heap.size))) (.map #[] 0)
      rw [hz] at this; exact this
    · show List.Perm _ (c.its.map It.ent2)
      rw [hits]; exact List.Perm.refl _
  · exact h.stale.same (fun k hk => hk.elim (hs k) (fun e => by rw [hits] at e; cases e))
  · intro x hx; exact h.items x hx
  · intro x hx
    have hx' : x ∈ c.its := hx
    rw [hits] at hx'; cases hx'
  · rintro k (e | e | e | e | e)
    · exact .inl (.inl e)
    · injection e with e; injection e with e; exact .inr (by omega)
    · exact .inl (.inr (.inr (.inl e)))
    · exact .inl (.inr (.inr (.inr (.inl e))))
    · exact .inl (.inr (.inr (.inr (.inr e))))
theorem equalIn_map (W : World) (d : Nat) (mo : Option Nat) : (Op.equalIn (d + 1) 87 (.map mo) (.map none)).run Try.prog W = .ok mo.isNone W := by
  cases mo <;> simp [Op.equalIn, run_underlying mapT_u]
theorem equal_map (W : World) (mo : Option Nat) : (Op.equal 87 (.map mo) (.map none)).run Try.prog W = .ok mo.isNone W := equalIn_map W 9999 mo
theorem eql_map (mo : Option Nat) (W : World) : (binOp .eql 87 (.map mo) (.map none)).run Try.prog W = .ok (.bool mo.isNone) W := by
  simp [binOp, equal_map W mo]
theorem RecsAt.mod {S : Nat → Prop} {w w' : World} {v : Value} {rs : List RRec} (h : RecsAt w v rs) (m : ModS S w w') (hro : ∀ k, v.ownBlock = some k → ¬ S k) : RecsAt w' v rs := by
  obtain ⟨A, cap, e, hc, h⟩ := h
  refine ⟨A, cap, e, hc, h.imp id ?_⟩
  rintro ⟨b, off, rfl, hk⟩
  refine ⟨b, off, rfl, fun i r hi j u hj => ?_⟩
  have h1 := hk i r hi j u hj
  exact (World.cell?_of_block (m.block b (blk_of_cell h1) (hro b (by rw [e]; rfl)))).trans h1
theorem bel_drewN (w : World) (n : Nat) : Below w.heap.size w (w.drewN n) := ⟨rfl, rfl, rfl, Nat.le_refl _, fun _ _ => rfl⟩
/-- Does a put go through? -/
def putOk (c : Ca) (e : Ent) (now : Int) : Bool := decide (cchk e = 0) && decide (now ≤ e.til) && !(c.ord.any fun x => x.ent.key == e.key && decide (now ≤ x.ent.til) && decide (e.rank < x.ent.rank))
def put1 (e : Ent) (L : List Ent) : List Ent := L.filter (fun y => y.key != e.key) ++ [e]
def put2 (most now : Int) (L : List Ent) : List Ent := if max most 1 < (L.length : Int) then L.filter (fun y => decide (now ≤ y.til)) else L
def put3 (most : Int) (L : List Ent) : List Ent := if max most 1 < (L.length : Int) then L.tail else L
def putL (most now : Int) (e : Ent) (L : List Ent) : List Ent := put3 most (put2 most now (put1 e L))
/-- What Put does. -/
def Putted (w : World) (c : Ca) (e : Ent) (now : Int) (r : Ending) (w' : World) : Prop :=
  ∃ c', r = .returned (.bool (putOk c e now)) ∧ After w c w' c' ∧ c.uses ≤ c'.uses ∧ c'.uses ≤ c.uses + 1 ∧ c'.ord.map It.ent = if putOk c e now = true then putL c.most now e (c.ord.map It.ent) else c.ord.map It.ent
theorem put_no {w w' : World} {c : Ca} {e : Ent} {now : Int} (h : CaAt w c) (hb : Below w.heap.size w w') (hn : putOk c e now = false) : Putted w c e now (.returned (.bool false)) w' := by
  refine ⟨c, by rw [hn], ⟨h.below hb, rfl, rfl, (ModS.refl _ _).below hb, fun k hk => .inl hk⟩, Int.le_refl _, by omega, ?_⟩
  rw [hn]; rfl

theorem bump_at {W W' : World} {c : Ca} (h : CaAt W c) (hW : W' = W.setCell ⟨c.cb, 3, none⟩ (.int .i64 (c.uses + 1))) : After W c W' { c with uses := c.uses + 1 } := by
  have far : ∀ k, k ≠ c.cb → W'.heap[k]? = W.heap[k]? := fun k hk => by rw [hW]; exact Below.heap_setCell _ _ _ _ hk
  have m : ModS c.own W W' := by rw [hW]; exact (ModS.refl c.own W).set (p := ⟨c.cb, 3, none⟩) (.inl rfl) _
  refine ⟨{ block := ?_, map := h.map.imp id (fun ⟨mb, h1, h2, h3⟩ => ⟨mb, h1, h2, h3.same (far _ (by omega))⟩), stale := ?_, items := h.items, recs := ?_, heap := h.heap, perm := h.perm, sorted := h.sorted, used := ?_, oks := h.oks, few := h.few }, rfl, rfl, m, fun k hk => .inl hk⟩
  · have hb := h.block
    rw [hW]
    simp [World.setCell, Array.getElem?_modify, hb]
  · refine h.stale.same (fun k hk => far k ?_)
    rcases hk with hk | hk
    · have := (own_cells h.stale.own k hk).1; omega
    · obtain ⟨y, hy, rfl⟩ := List.mem_map.1 hk
      have := h.items y hy; omega
  · intro x hx
    exact (h.recs x hx).same (fun k cur hk _ => far k (by have := (own_cells (h.recs x hx) k hk).1; omega))
  · intro x hx
    have := h.used x hx
    show x.used ≤ c.uses + 1
    omega
theorem put_after {w w7 w9 : World} {c c3 : Ca} {x : It} {v' : Value} (A : After w c w7 c3) (hB : w.heap.size ≤ x.blk) (hrv : ∀ k, x.rv.ownBlock = some k → w.heap.size ≤ k)
    (h : CaAt w9 (c3.put x v') ∧ ModS (fun k => c3.own k ∨ k = x.blk) w7 w9 ∧ (∀ k, (c3.put x v').own k → c3.own k ∨ k = x.blk ∨ x.rv.ownBlock = some k ∨ w7.heap.size ≤ k)) : After w c w9 (c3.put x v') := by
  obtain ⟨h1, h2, h3⟩ := h
  refine ⟨h1, A.cb, A.most, A.mod.comp h2 ?_, ?_⟩
  · rintro k hk (e | e)
    · exact (A.own k e).elim id (fun q => by omega)
    · omega
  · intro k hk
    rcases h3 k hk with e | e | e | e
    · exact A.own k e
    · exact .inr (by omega)
    · exact .inr (hrv k e)
    · have := A.mod.size; exact .inr (by omega)
theorem len_map {W : World} {c : Ca} (h : CaAt W c) (T : TypeId) : (Builtin.len_ #[87] T #[c.mv]).run Try.prog W = .ok (.int .i64 c.its.length) W := by
  rcases h.map with ⟨e1, e2⟩ | ⟨mb, e1, _, hm⟩
  · rw [e1, e2]
    simp [Builtin.len_, run_underlying mapT_u, Result.andThen, goInt]
  · rw [e1]; exact map_len hm T
theorem CaAt.drewN {W : World} {c : Ca} (h : CaAt W c) (n : Nat) : CaAt (W.drewN n) c := h.below (bel_drewN W n)
/-- The one that was used longest ago stands first. -/
theorem drop_first {W : World} {c : Ca} (h : CaAt W c) {x : It} (hx : x ∈ c.its) (hm : ∀ y ∈ c.its, x.used ≤ y.used) : c.ord.filter (fun y => y.blk != x.blk) = c.ord.tail := by
  have hs := h.sorted
  have hn := h.nodup
  have hxo := h.perm.mem_iff.2 hx
  have hmo : ∀ y ∈ c.ord, x.used ≤ y.used := fun y hy => hm y (h.perm.mem_iff.1 hy)
  cases ho : c.ord with
  | nil => rw [ho] at hxo; cases hxo
  | cons z l =>
    rw [ho] at hs hn hxo hmo
    have hz : z = x := by
      rcases List.mem_cons.1 hxo with e | e
      · exact e.symm
      · have := (List.pairwise_cons.1 hs).1 x e
        have := hmo z (List.mem_cons_self)
        omega
    subst hz
    rw [List.map_cons, List.nodup_cons] at hn
    rw [List.filter_cons_of_neg (by simp), filter_blk hn.1]; rfl

set_option maxRecDepth 100000 in
set_option maxHeartbeats 4000000 in
theorem put_any (c : Ca) (e : Ent) (rv : Value) (now : Int) (w : World) (h : CaAt w c) (he : EntIn e) (hrv : RecsAt w rv e.recs) (hro : ∀ k, rv.ownBlock = some k → ¬ c.own k) (hu : 0 ≤ c.uses ∧ c.uses < 9223372036854775807) (hfew : c.its.length < 1000000) :
    Calls Try.prog 20 #[.pointer (some ⟨c.cb, 0, none⟩), e.val rv, .int .i64 now] w fun r w' => Putted w c e now r w' := by
  have hcheck := fun W (hb : Below w.heap.size w W) => ccheck_any e rv W he (hrv.below hb)
  have hkey := fun W => ckey_any e rv W he
  obtain ⟨A, cap, rfl⟩ := hrv.shape
  unfold Ent.val at *
  have Hcheck := Lib.hid hcheck
  have Hkey := Lib.hid hkey
  have H := Lib.hid h
  have Hrv := Lib.hid hrv
  clear hcheck hkey h hrv
  have hb0 : Below w.heap.size w (w.alloc (.cells #[.int .i64 e.kind, .string (bs e.name), .int .u16 e.t, .int .u16 e.c, .slice A e.recs.length cap, .int .i64 e.til, .int .i64 e.rank, .int .i64 e.epoch, .int .i64 e.source] 25)) := (Below.refl _ w).alloc (Nat.le_refl _) _
  have Hb0 := Lib.hid hb0
  clear hb0
  go_enter Try.func20, Try.ntmps20
  go_wp2_with fail
  refine (Hcheck.out _ Hb0.out).mono ?_
  rintro r w1 ⟨rfl, h1⟩
  have hz1 := h1.size
  rw [World.size_alloc] at hz1
  have hb1 : w1.heap[w.heap.size]? = some (.cells #[.int .i64 e.kind, .string (bs e.name), .int .u16 e.t, .int .u16 e.c, .slice A e.recs.length cap, .int .i64 e.til, .int .i64 e.rank, .int .i64 e.epoch, .int .i64 e.source] 25 (0, 0)) := (h1.block _ (by simp)).trans (heap_alloc_new _ _)
  have Hb1 := Lib.hid (Hb0.out.trans (h1.mono (by simp)))
  have HB1 := Lib.hid hb1
  have r0 : w1.cell? ⟨w.heap.size, 0, none⟩ = some (.int .i64 e.kind) := by simp [World.cell?, hb1]
  have r1 : w1.cell? ⟨w.heap.size, 1, none⟩ = some (.string (bs e.name)) := by simp [World.cell?, hb1]
  have r2 : w1.cell? ⟨w.heap.size, 2, none⟩ = some (.int .u16 e.t) := by simp [World.cell?, hb1]
  have r3 : w1.cell? ⟨w.heap.size, 3, none⟩ = some (.int .u16 e.c) := by simp [World.cell?, hb1]
  have r4 : w1.cell? ⟨w.heap.size, 4, none⟩ = some (.slice A e.recs.length cap) := by simp [World.cell?, hb1]
  have r5 : w1.cell? ⟨w.heap.size, 5, none⟩ = some (.int .i64 e.til) := by simp [World.cell?, hb1]
  have r6 : w1.cell? ⟨w.heap.size, 6, none⟩ = some (.int .i64 e.rank) := by simp [World.cell?, hb1]
  have r7 : w1.cell? ⟨w.heap.size, 7, none⟩ = some (.int .i64 e.epoch) := by simp [World.cell?, hb1]
  have r8 : w1.cell? ⟨w.heap.size, 8, none⟩ = some (.int .i64 e.source) := by simp [World.cell?, hb1]
  clear h1 hb1
  by_cases hc : cchk e = 0
  · have hcb : (cchk e != 0) = false := by rw [hc]; rfl
    have Hc := Lib.hid hc
    clear hc
    by_cases hn : e.til < now
    · have hd := decide_eq_true hn
      have Hn := Lib.hid hn
      clear hn
      go_wp2_with fail
      go_ret
      exact put_no H.out Hb1.out (by unfold putOk; rw [decide_eq_false (p := now ≤ e.til) (by have := Hn.out; omega)]; simp)
    · have hd := decide_eq_false hn
      have Hn := Lib.hid hn
      clear hn
      go_wp2_with fail
      refine (Hkey.out _).mono ?_
      rintro r w2 ⟨rfl, h2⟩
      have hz2 := h2.size
      have Hb2 := Lib.hid (Hb1.out.trans (h2.mono (by omega)))
      have hb2 : w2.heap[w.heap.size]? = some (.cells #[.int .i64 e.kind, .string (bs e.name), .int .u16 e.t, .int .u16 e.c, .slice A e.recs.length cap, .int .i64 e.til, .int .i64 e.rank, .int .i64 e.epoch, .int .i64 e.source] 25 (0, 0)) := (h2.block _ (by omega)).trans HB1.out
      have HB2 := Lib.hid hb2
      have H2 := Lib.hid (H.out.below Hb2.out)
      clear h2 hb2 r0 r1 r2 r3 r4 r5 r6 r7 r8
      have s6 : w2.cell? ⟨w.heap.size, 6, none⟩ = some (.int .i64 e.rank) := by have := HB2.out; simp [World.cell?, this]
      have c1 := H2.out.cells.1.2.1
      go_upto_region 4 with fail
      go_cut [8, 9] (fun p b wx => w2 = wx ∧ ((b = .bool false ∧ p = .pointer none ∧ ∀ x ∈ c.its, x.ent.key ≠ e.key) ∨ (b = .bool true ∧ ∃ x ∈ c.its, p = x.ptr ∧ x.ent.key = e.key)))
      case first =>
        rcases look_any H2.out e.key with ⟨hk, hl⟩ | ⟨x, hx, hk, hl⟩
        · have Hk := Lib.hid hk
          clear hk
          go_wp2_with fail
          go_meet
          exact ⟨rfl, .inl ⟨rfl, rfl, Hk.out⟩⟩
        · have Hk := Lib.hid hk
          have Hx := Lib.hid hx
          clear hk hx
          go_wp2_with fail
          go_meet
          exact ⟨rfl, .inr ⟨rfl, x, Hx.out, rfl, Hk.out⟩⟩
      case rest =>
        obtain ⟨rfl, hcut⟩ := hcut
        have Hcut := Lib.hid hcut
        clear hcut
        go_upto_region 5 with fail
        go_cut [54] (fun v wx => Below w2.heap.size w2 wx ∧ v = .bool (c.ord.any fun x => x.ent.key == e.key && decide (now ≤ x.ent.til) && decide (e.rank < x.ent.rank)))
        case first =>
          rcases Hcut.out with ⟨rfl, rfl, hk⟩ | ⟨rfl, x, hx, rfl, hk⟩
          · have ha : (c.ord.any fun x => x.ent.key == e.key && decide (now ≤ x.ent.til) && decide (e.rank < x.ent.rank)) = false := by
              rw [List.any_eq_false]
              intro x hx
              have := hk x (H.out.perm.mem_iff.1 hx)
              simp [this]
            have Ha := Lib.hid ha
            clear ha hk Hcut c1 s6
            go_quiet (fail)
            all_goals (go_wp2_with fail; go_meet; exact ⟨bel_drewN w2 _, by rw [Ha.out]⟩)
          · have ha : (c.ord.any fun x => x.ent.key == e.key && decide (now ≤ x.ent.til) && decide (e.rank < x.ent.rank)) = (decide (now ≤ x.ent.til) && decide (e.rank < x.ent.rank)) := by
              rw [Bool.eq_iff_iff, List.any_eq_true]
              constructor
              · rintro ⟨y, hy, h⟩
                simp only [Bool.and_eq_true, beq_iff_eq] at h
                have := H.out.key_one (H.out.perm.mem_iff.1 hy) hx (h.1.1.trans hk.symm)
                subst this
                rw [h.1.2, h.2]; rfl
              · intro h
                exact ⟨x, H.out.perm.mem_iff.2 hx, by rw [hk]; simp at h ⊢; exact h⟩
            have Ha := Lib.hid ha
            obtain ⟨_, _, _, _, _, i5, i6, _⟩ := H2.out.itemCells hx
            unfold It.ptr
            clear ha hk Hcut c1 hx
            by_cases q1 : now ≤ x.ent.til
            · have d1 := decide_eq_true q1
              by_cases q2 : e.rank < x.ent.rank
              · have d2 := decide_eq_true q2
                have Q1 := Lib.hid q1
                have Q2 := Lib.hid q2
                clear q1 q2
                go_quiet (fail)
                all_goals (go_wp2_with fail; go_meet; exact ⟨bel_drewN w2 _, by rw [Ha.out, decide_eq_true Q1.out, decide_eq_true Q2.out]; rfl⟩)
              · have d2 := decide_eq_false q2
                have Q1 := Lib.hid q1
                have Q2 := Lib.hid q2
                clear q1 q2
                go_quiet (fail)
                all_goals (go_wp2_with fail; go_meet; exact ⟨bel_drewN w2 _, by rw [Ha.out, decide_eq_true Q1.out, decide_eq_false (p := e.rank < x.ent.rank) (by have := Q2.out; omega)]; rfl⟩)
            · have d1 := decide_eq_false q1
              have Q1 := Lib.hid q1
              clear q1
              go_quiet (fail)
              all_goals (go_wp2_with fail; go_meet; exact ⟨bel_drewN w2 _, by rw [Ha.out, decide_eq_false (p := now ≤ x.ent.til) (by have := Q1.out; omega)]; rfl⟩)
        case rest =>
          obtain ⟨hw, rfl⟩ := hcut
          have hzw := hw.size
          have Hbw := Lib.hid (Hb2.out.trans (hw.mono (by omega)))
          cases hany : (c.ord.any fun x => x.ent.key == e.key && decide (now ≤ x.ent.til) && decide (e.rank < x.ent.rank)) with
          | true =>
            have Hany := Lib.hid hany
            clear hany hw
            go_wp2_with fail
            go_ret
            exact put_no H.out Hbw.out (by unfold putOk; rw [Hany.out]; simp)
          | false =>
            have Hok : Hid (putOk c e now = true) := Lib.hid (by unfold putOk; rw [hany, decide_eq_true Hc.out, decide_eq_true (p := now ≤ e.til) (by have := Hn.out; omega)]; rfl)
            have HBw := Lib.hid ((hw.block _ (by omega)).trans HB2.out)
            have Hw := Lib.hid (H.out.below Hbw.out)
            clear hany hw c1 s6
            generalize wc = w3 at *
            go_upto_if 55 with fail
            go_cut [] (fun wx => ∃ c1, After w3 c wx c1 ∧ c1.uses = c.uses ∧ c1.ord = c.ord.filter (fun y => y.ent.key != e.key))
            case first =>
              rcases Hcut.out with ⟨rfl, rfl, hk⟩ | ⟨rfl, x, hx, rfl, hk⟩
              · have Hk := Lib.hid hk
                clear hk Hcut
                go_wp2_with fail
                go_meet
                refine ⟨c, After.refl Hw.out, rfl, (List.filter_eq_self.2 (fun y hy => ?_)).symm⟩
                exact bne_iff_ne.2 (Hk.out y (H.out.perm.mem_iff.1 hy))
              · have Hk := Lib.hid hk
                have Hx := Lib.hid hx
                clear hk hx Hcut
                go_wp2_with fail
                refine (drop_after c x w3 Hw.out Hx.out).mono ?_
                rintro r w4 ⟨rfl, c1, a1, a2, a3⟩
                have Ha := Lib.hid a1
                have Ha3 := Lib.hid a3
                clear a1 a3
                go_wp2_with fail
                go_meet
                exact ⟨c1, Ha.out, a2, by rw [Ha3.out, filter_key Hw.out Hx.out, Hk.out]⟩
            case rest =>
              obtain ⟨c1, a1, a2, a3⟩ := hcut
              have a0 := (After.below H.out Hbw.out).trans a1
              have hown : ¬ c.own w.heap.size := fun q => by have := (H.out.own_lt q).2; omega
              have hb4 := (a1.mod.block _ (by omega) hown).trans HBw.out
              have HB4 := Lib.hid hb4
              have HA := Lib.hid a0
              have A3 := Lib.hid a3
              have hcb := a0.cb
              have hz4 := a1.mod.size
              clear a1 a0 a3 hb4 Hw HBw Hbw Hcut HB2 HB1 Hb2 Hb1 H2
              generalize wc = w4 at *
              obtain ⟨⟨d0, d1, d2, d3⟩, g0⟩ := HA.out.at'.cells
              rw [hcb] at d0 d1 d2 d3 g0
              have g1 := g0 1
              clear g0
              have hcl : c.cb < w4.heap.size := by have := HA.out.at'.lt; rw [hcb] at this; exact this
              obtain ⟨mo, hmo⟩ : ∃ mo, c1.mv = .map mo := by
                rcases HA.out.at'.map with ⟨e1, _⟩ | ⟨mb, e1, _⟩
                · exact ⟨_, e1⟩
                · exact ⟨_, e1⟩
              rw [hmo] at d1
              have Hmo := Lib.hid hmo
              clear hmo
              have hq := eql_map mo w4
              go_upto_if 63 with fail
              go_cut [] (fun wx => ∃ c2 mb, After w c wx c2 ∧ c2.uses = c.uses ∧ c2.ord = c.ord.filter (fun y => y.ent.key != e.key) ∧ c2.mv = .map (some mb) ∧ wx.heap[w.heap.size]? = w4.heap[w.heap.size]? ∧ w4.heap.size ≤ wx.heap.size)
              case first =>
                rcases HA.out.at'.map with ⟨e1, e2⟩ | ⟨mb, e1, _, hm⟩
                · obtain rfl : mo = none := by have := Hmo.out.symm.trans e1; injection this
                  have E1 := Lib.hid e1
                  have E2 := Lib.hid e2
                  clear e1 e2
                  have hmk : (Instr.makeMap 87 none).run Try.prog w4 = .ok (.map (some w4.heap.size)) (w4.alloc (.map #[] 0)) := rfl
                  go_wp2_with fail
                  go_meet
                  have hmk2 := mkMap_at (W' := (w4.setCell ⟨c.cb, 1, none⟩ (.map (some w4.heap.size))).alloc (.map #[] 0)) HA.out.at' E2.out (by rw [hcb])
                  have hcw : c.cb < w.heap.size := H.out.lt
                  refine ⟨{ c1 with mv := .map (some w4.heap.size) }, w4.heap.size, HA.out.trans hmk2, a2, A3.out, rfl, ?_, by simp [World.setCell]⟩
                  exact (Below.heap_alloc _ _ _ (by simp [World.setCell]; omega)).trans (Below.heap_setCell _ _ _ _ (by show w.heap.size ≠ c.cb; omega))
                · obtain rfl : mo = some mb := by have := Hmo.out.symm.trans e1; injection this
                  have E1 := Lib.hid e1
                  clear e1 hm
                  go_wp2_with fail
                  go_meet
                  exact ⟨c1, mb, HA.out, a2, A3.out, E1.out, rfl, Nat.le_refl _⟩
              case rest =>
                obtain ⟨c2, mb, a1, a2, a3, a4, a5, a6⟩ := hcut
                have hb5 := a5.trans HB4.out
                have HB5 := Lib.hid hb5
                have HA2 := Lib.hid a1
                have A3' := Lib.hid a3
                have A4 := Lib.hid a4
                have hcb2 := a1.cb
                have hz5 : w.heap.size < wc.heap.size := by omega
                clear a1 a3 a4 a5 hb5 HA A3 Hmo hq d0 d1 d2 d3 g1 HB4
                generalize wc = w5 at *
                obtain ⟨⟨d0, d1, d2, d3⟩, g0⟩ := HA2.out.at'.cells
                rw [hcb2] at d0 d1 d2 d3 g0
                have g3 := g0 3
                rw [a2] at d3
                have hw64 : wrap64 (c.uses + 1) = c.uses + 1 := by unfold wrap64; omega
                have hcl5 : c.cb < w5.heap.size := by have := HA2.out.at'.lt; rw [hcb2] at this; exact this
                clear g0
                go_upto_region 12 with fail
                obtain ⟨w6, hw6⟩ : ∃ w6, w6 = w5.setCell ⟨c.cb, 3, none⟩ (.int .i64 (c.uses + 1)) := ⟨_, rfl⟩
                rw [← hw6]
                have e6 : w6.cell? ⟨c.cb, 3, none⟩ = some (.int .i64 (c.uses + 1)) := by rw [hw6]; exact cell_set_same d3
                have hcw : c.cb < w.heap.size := H.out.lt
                have hb6 : w6.heap[w.heap.size]? = some (.cells #[.int .i64 e.kind, .string (bs e.name), .int .u16 e.t, .int .u16 e.c, .slice A e.recs.length cap, .int .i64 e.til, .int .i64 e.rank, .int .i64 e.epoch, .int .i64 e.source] 25 (0, 0)) := by rw [hw6]; exact (Below.heap_setCell _ _ _ _ (by show w.heap.size ≠ c.cb; omega)).trans HB5.out
                have b0 : w6.cell? ⟨w.heap.size, 0, none⟩ = some (.int .i64 e.kind) := by simp [World.cell?, hb6]
                have b1 : w6.cell? ⟨w.heap.size, 1, none⟩ = some (.string (bs e.name)) := by simp [World.cell?, hb6]
                have b2 : w6.cell? ⟨w.heap.size, 2, none⟩ = some (.int .u16 e.t) := by simp [World.cell?, hb6]
                have b3 : w6.cell? ⟨w.heap.size, 3, none⟩ = some (.int .u16 e.c) := by simp [World.cell?, hb6]
                have b4 : w6.cell? ⟨w.heap.size, 4, none⟩ = some (.slice A e.recs.length cap) := by simp [World.cell?, hb6]
                have b5 : w6.cell? ⟨w.heap.size, 5, none⟩ = some (.int .i64 e.til) := by simp [World.cell?, hb6]
                have b6 : w6.cell? ⟨w.heap.size, 6, none⟩ = some (.int .i64 e.rank) := by simp [World.cell?, hb6]
                have b7 : w6.cell? ⟨w.heap.size, 7, none⟩ = some (.int .i64 e.epoch) := by simp [World.cell?, hb6]
                have b8 : w6.cell? ⟨w.heap.size, 8, none⟩ = some (.int .i64 e.source) := by simp [World.cell?, hb6]
                have Hb6 := Lib.hid hb6
                have Hw6 := Lib.hid hw6
                have hself := Below.refl w6.heap.size w6
                have hz6 : c.cb < w6.heap.size ∧ w.heap.size < w6.heap.size := by rw [Hw6.out]; simp [World.setCell]; omega
                clear hw6 hb6 d0 d1 d2 d3 g3
                go_cut [10] (fun p wx => ∃ rv' B, p = .pointer (some ⟨B, 0, none⟩) ∧ wx.heap[B]? = some (.cells (It.cells ⟨e, c.uses + 1, B, rv'⟩ 0) 103 (0, 0)) ∧ Below w6.heap.size w6 wx ∧ w6.heap.size ≤ B ∧ RecsOwn wx w6.heap.size rv' e.recs)
                case first =>
                  have hrv6 : RecsAt w6 (.slice A e.recs.length cap) e.recs := by
                    rw [Hw6.out]
                    exact Hrv.out.mod (HA2.out.mod.set (p := ⟨c.cb, 3, none⟩) (.inl rfl) _) hro
                  have hcp := copied_any e (.slice A e.recs.length cap) w6.drew (hrv6.below ((Below.refl _ w6).drew)) (by have := recs_few Hc.out; omega)
                  unfold Ent.val at hcp
                  have Hcp := Lib.hid hcp
                  clear hcp hrv6
                  have hall : ∀ w', Below w6.heap.size w6 w' → (w'.cell? ⟨c.cb, 3, none⟩ = some (.int .i64 (c.uses + 1)) ∧ w'.cell? ⟨w.heap.size, 0, none⟩ = some (.int .i64 e.kind) ∧ w'.cell? ⟨w.heap.size, 1, none⟩ = some (.string (bs e.name)) ∧ w'.cell? ⟨w.heap.size, 2, none⟩ = some (.int .u16 e.t) ∧ w'.cell? ⟨w.heap.size, 3, none⟩ = some (.int .u16 e.c) ∧ w'.cell? ⟨w.heap.size, 4, none⟩ = some (.slice A e.recs.length cap) ∧ w'.cell? ⟨w.heap.size, 5, none⟩ = some (.int .i64 e.til) ∧ w'.cell? ⟨w.heap.size, 6, none⟩ = some (.int .i64 e.rank) ∧ w'.cell? ⟨w.heap.size, 7, none⟩ = some (.int .i64 e.epoch) ∧ w'.cell? ⟨w.heap.size, 8, none⟩ = some (.int .i64 e.source) ∧ Below w6.heap.size w6 w') := by
                    intro w' hb
                    have q : ∀ o, w'.cell? ⟨w.heap.size, o, none⟩ = w6.cell? ⟨w.heap.size, o, none⟩ := fun o => hb.cell (p := ⟨w.heap.size, o, none⟩) hz6.2
                    exact ⟨(hb.cell (p := ⟨c.cb, 3, none⟩) hz6.1).trans e6, (q 0).trans b0, (q 1).trans b1, (q 2).trans b2, (q 3).trans b3, (q 4).trans b4, (q 5).trans b5, (q 6).trans b6, (q 7).trans b7, (q 8).trans b8, hb⟩
                  have Hall := Lib.hid hall
                  clear hall
                  go_region_held3 (fun w' => w'.cell? ⟨c.cb, 3, none⟩ = some (.int .i64 (c.uses + 1)) ∧ w'.cell? ⟨w.heap.size, 0, none⟩ = some (.int .i64 e.kind) ∧ w'.cell? ⟨w.heap.size, 1, none⟩ = some (.string (bs e.name)) ∧ w'.cell? ⟨w.heap.size, 2, none⟩ = some (.int .u16 e.t) ∧ w'.cell? ⟨w.heap.size, 3, none⟩ = some (.int .u16 e.c) ∧ w'.cell? ⟨w.heap.size, 4, none⟩ = some (.slice A e.recs.length cap) ∧ w'.cell? ⟨w.heap.size, 5, none⟩ = some (.int .i64 e.til) ∧ w'.cell? ⟨w.heap.size, 6, none⟩ = some (.int .i64 e.rank) ∧ w'.cell? ⟨w.heap.size, 7, none⟩ = some (.int .i64 e.epoch) ∧ w'.cell? ⟨w.heap.size, 8, none⟩ = some (.int .i64 e.source) ∧ Below w6.heap.size w6 w') ((first | exact Hall.out _ hself.drew | exact Hall.out _ (by assumption) | exact Hall.out _ (bel_alloc (by assumption) _)))
                    (((go_at_call 57; refine Hcp.out.mono ?_; rintro r w7 ⟨rv', rfl, ho, h7⟩; have hB7 : Below w6.heap.size w6 w7 := hself.drew.trans h7; obtain ⟨A7, cap7, rfl⟩ := ho.shape)))
                  go_wp2_with fail
                  go_meet
                  refine ⟨_, w7.heap.size, rfl, heap_alloc_new _ _, bel_alloc hB7 _, hB7.size, ?_⟩
                  exact RecsOwn.same (W := w7) ho (fun k cur _ hc => Below.heap_alloc _ _ _ (Array.getElem?_eq_some_iff.1 hc).1)
                case rest =>
                  obtain ⟨rv', B, rfl, hB, h7, hB6, ho⟩ := hcut
                  have ab := bump_at (W' := w6) HA2.out.at' (by rw [Hw6.out, hcb2, a2])
                  have A6 := HA2.out.trans ab
                  have hs6 := A6.mod.size
                  have A7 : After w c wc { c2 with uses := c2.uses + 1 } := A6.trans (After.below A6.at' h7)
                  obtain ⟨x, hxd⟩ : ∃ x : It, x = ⟨e, c.uses + 1, B, rv'⟩ := ⟨_, rfl⟩
                  obtain ⟨c3, hc3⟩ : ∃ c3 : Ca, c3 = { c2 with uses := c2.uses + 1 } := ⟨_, rfl⟩
                  rw [← hc3] at A7 A6
                  have hits : c3.its = c2.its := by rw [hc3]
                  have hord : c3.ord = c2.ord := by rw [hc3]
                  have hmv : c3.mv = .map (some mb) := by rw [hc3]; exact A4.out
                  have hlt3 := A7.at'.lt
                  have hcb3 : c3.cb = c.cb := by rw [hc3]; exact hcb2
                  have hf : Fresh wc c3 x := by
                    rw [hxd]
                    refine ⟨hB, RecsOwn.mono ho (by rw [hcb3]; omega), by rw [hcb3]; show c.cb < B; omega, fun q => ?_, ?_, by rw [hc3]; show c.uses + 1 ≤ c2.uses + 1; omega, ?_, ⟨he, Hc.out⟩, ?_⟩
                    · have := (A6.at'.own_lt q).2
                      have : B < w6.heap.size := this
                      omega
                    · intro y hy
                      rw [hits] at hy
                      have := HA2.out.at'.used y hy
                      show y.used < c.uses + 1
                      omega
                    · intro y hy
                      rw [← A7.at'.perm.mem_iff, hord, A3'.out] at hy
                      exact bne_iff_ne.1 (List.mem_filter.1 hy).2
                    · rw [← A7.at'.len, hord, A3'.out]
                      have := List.length_filter_le (fun y : It => y.ent.key != e.key) c.ord
                      rw [H.out.len] at this
                      omega
                  obtain ⟨hmlt, hmr⟩ : c3.cb < mb ∧ MapRow wc mb c3.its := by
                    rcases A7.at'.map with ⟨q, _⟩ | ⟨mb', q, q1, q2⟩
                    · rw [hmv] at q; cases q
                    · rw [hmv] at q
                      obtain rfl : mb = mb' := by injection q with q; injection q
                      exact ⟨q1, q2⟩
                  obtain ⟨o, hup, hmr2⟩ := map_new hmr x hf.key
                  have pm := put_map (o := o) A7.at' hf hmv hmr
                  obtain ⟨⟨p0, p1, p2, p3⟩, g0⟩ := A7.at'.cells
                  rw [hcb3] at p0 p1 p2 p3
                  rw [hmv] at p1
                  have hxent : x.ent = e := by rw [hxd]
                  have hxptr : x.ptr = .pointer (some ⟨B, 0, none⟩) := by rw [hxd]; rfl
                  have hxblk : x.blk = B := by rw [hxd]
                  have hxrv : x.rv = rv' := by rw [hxd]
                  rw [hxent, hxptr] at hup
                  have hBw : w.heap.size ≤ B := by omega
                  have hrvw : ∀ k, x.rv.ownBlock = some k → w.heap.size ≤ k := by
                    rw [hxrv]; intro k hk
                    have := (own_cells ho k hk).1
                    omega
                  have hlen8 : c3.its.length ≤ 1099511627776 := by have := A7.at'.few; omega
                  have hord3 : c3.ord = c.ord.filter (fun y => y.ent.key != e.key) := by rw [hord]; exact A3'.out
                  have huse3 : c3.uses = c.uses + 1 := by rw [hc3]; show c2.uses + 1 = _; rw [a2]
                  have HA7 := Lib.hid A7
                  have Hf := Lib.hid hf
                  have Hmv := Lib.hid hmv
                  have Hmr2 := Lib.hid hmr2
                  have Hpm := Lib.hid pm
                  have Hcb3 := Lib.hid hcb3
                  have Hxent := Lib.hid hxent
                  have Hxptr := Lib.hid hxptr
                  have Hxblk := Lib.hid hxblk
                  have Hord3 := Lib.hid hord3
                  have Huse3 := Lib.hid huse3
                  clear A7 A6 ab hf hmv hmr hmr2 pm hcb3 hxent hxptr hxblk hxrv hxd hc3 hits hord g0 hB ho h7 HA2 A3' A4 Hw6 HB5 e6 b0 b1 b2 b3 b4 b5 b6 b7 b8 Hb6 hself hs6 hz6 hz5 hB6 hcl5 hcw p0 p2 p3 hord3 huse3 hcb2
                  generalize wc = w7 at *
                  go_upto_region 14 with fail
                  clear hup p1
                  generalize putObj w7 mb o = w8 at *
                  go_cut [] (fun wx => ∃ c4, After w c wx c4 ∧ c4.uses = c.uses + 1 ∧ c4.ord.map It.ent = put1 e (c.ord.map It.ent) ∧ ∃ mb, c4.mv = .map (some mb))
                  case first =>
                    have hpm := Hpm.out
                    have hst8 : Stale w8 (c3.cb + 1) ⟨c.cb, 2, none⟩ c3.sv c3.its := by have := hpm.1; rw [Hcb3.out] at this ⊢; exact this
                    have hnot : x.blk ∉ c3.its.map It.blk := fun q => Hf.out.new (.inr (.inr (.inr (.inl q))))
                    have hne : c.cb ≠ x.blk := by have := Hf.out.low; rw [Hcb3.out] at this; omega
                    have hz8 : c3.cb + 1 ≤ w8.heap.size := by have := hpm.2.2.2.2.2.size; have := HA7.out.at'.lt; omega
                    have hpush := heapPush_any (c3.cb + 1) c3.sv x 0 ⟨c.cb, 2, none⟩ c3.its w8 hst8 hpm.2.1 hnot hne hz8 hlen8
                    rw [Hxptr.out] at hpush
                    have Hpush := Lib.hid hpush
                    clear hpush hpm hst8 hnot hne hz8
                    go_wp2_with fail
                    refine Hpush.out.mono ?_
                    rintro r w9 ⟨rfl, v', q1, q2, q3, q4⟩
                    have hpm := Hpm.out
                    have fin := put_after HA7.out (x := x) (w9 := w9) (v' := v') (by rw [Hxblk.out]; exact hBw) hrvw (put_fin HA7.out.at' Hf.out Hmv.out hmlt Hmr2.out hpm.1.st hpm.2.1 hpm.2.2.1 hpm.2.2.2.1 hpm.2.2.2.2.1 hpm.2.2.2.2.2 (by rw [Hcb3.out] at q1 ⊢; exact q1) (by rw [Hcb3.out]; exact q2) q3 (by rw [Hcb3.out]; exact q4))
                    have Fin := Lib.hid fin
                    clear fin q1 q2 q3 q4 hpm
                    go_wp2_with fail
                    go_meet
                    refine ⟨_, Fin.out, Huse3.out, ?_, mb, Hmv.out⟩
                    show (c3.ord ++ [x]).map It.ent = _
                    unfold put1
                    rw [List.map_append, Hord3.out, List.filter_map]
                    show _ ++ [x.ent] = _
                    rw [Hxent.out]
                    rfl
                  case rest =>
                    obtain ⟨c4, k1, k2, k3, mb4, k4⟩ := hcut
                    obtain ⟨⟨p0, p1, p2, p3⟩, g0⟩ := k1.at'.cells
                    have hcb4 := k1.cb
                    have hmost4 := k1.most
                    rw [hcb4] at p0 p1
                    rw [k4] at p1
                    rw [hmost4] at p0
                    have hlen4 : ((put1 e (c.ord.map It.ent)).length : Int) = c4.its.length := by rw [← k3, List.length_map, k1.at'.len]
                    have hl4 : ∀ n, (Builtin.len_ #[87] 3 #[.map (some mb4)]).run Try.prog (wc.drewN n) = .ok (.int .i64 ((put1 e (c.ord.map It.ent)).length : Int)) (wc.drewN n) := fun n => by
                      rw [hlen4, ← k4]; exact len_map (k1.at'.drewN n) _
                    have K1 := Lib.hid k1
                    have K3 := Lib.hid k3
                    have K4 := Lib.hid k4
                    have Hlen4 := Lib.hid hlen4
                    have Hmost4 := Lib.hid hmost4
                    have Hcb4 := Lib.hid hcb4
                    clear k1 k3 k4 p2 p3 g0 hlen4 hmost4 hcb4 HA7 Hf Hmv Hmr2 Hpm Hcb3 Hxent Hxptr Hxblk Hord3 Huse3 hmlt hBw hrvw hlen8 hlt3
                    generalize wc = w9 at *
                    obtain ⟨M, hM⟩ : ∃ M, M = max c.most 1 := ⟨_, rfl⟩
                    have hmx : ∀ W, (Builtin.max_ #[3, 3] 3 #[.int .i64 c.most, .int .i64 1]).run Try.prog W = .ok (.int .i64 M) W := fun W => by rw [hM]; exact Lib.run_max_ints W _ _ _ _ _ _
                    have HM := Lib.hid hM
                    clear hM
                    go_upto_region 15 with fail
                    go_cut [107] (fun v wx => Below w9.heap.size w9 wx ∧ v = .bool (decide (M < ((put1 e (c.ord.map It.ent)).length : Int))))
                    case first =>
                      go_quiet (fail)
                      all_goals (go_wp2_with fail; go_meet; exact ⟨bel_drewN w9 _, rfl⟩)
                    case rest =>
                      obtain ⟨hb, rfl⟩ := hcut
                      have hk := K1.out.trans (After.below K1.out.at' hb)
                      have K5 := Lib.hid hk
                      clear hb hk p0 p1 hl4 K1 Hcb4 Hmost4
                      generalize wc = w10 at *
                      go_upto_if 107 with fail
                      go_cut [] (fun wx => ∃ c5, After w c wx c5 ∧ c5.uses = c.uses + 1 ∧ c5.ord.map It.ent = put2 c.most now (put1 e (c.ord.map It.ent)))
                      case first =>
                        by_cases hq : M < ((put1 e (c.ord.map It.ent)).length : Int)
                        · have hd := decide_eq_true hq
                          rw [hd]
                          have hexp := expire_any c4 now w10 K5.out.at'
                          rw [K5.out.cb] at hexp
                          have Hexp := Lib.hid hexp
                          have Hq := Lib.hid hq
                          clear hexp hq
                          go_wp2_with fail
                          refine Hexp.out.mono ?_
                          rintro r w11 ⟨c5, rfl, q1, q2, q3⟩
                          have Q1 := Lib.hid (K5.out.trans q1)
                          have Q3 := Lib.hid q3
                          clear q1 q3
                          go_wp2_with fail
                          go_meet
                          refine ⟨c5, Q1.out, q2.trans k2, ?_⟩
                          unfold put2
                          rw [if_pos (by rw [← HM.out]; exact Hq.out), Q3.out, ← K3.out, List.filter_map]; rfl
                        · have hd := decide_eq_false hq
                          rw [hd]
                          have Hq := Lib.hid hq
                          clear hq
                          go_wp2_with fail
                          go_meet
                          refine ⟨c4, K5.out, k2, ?_⟩
                          unfold put2
                          rw [if_neg (by rw [← HM.out]; have := Hq.out; omega), K3.out]
                      case rest =>
                        obtain ⟨c5, k1, k5, k3⟩ := hcut
                        obtain ⟨⟨p0, p1, p2, p3⟩, g0⟩ := k1.at'.cells
                        have hcb5 := k1.cb
                        have hmost5 := k1.most
                        rw [hcb5] at p0 p1 p2
                        rw [hmost5] at p0
                        obtain ⟨mv5, hmv5⟩ : ∃ v, v = c5.mv := ⟨_, rfl⟩
                        rw [← hmv5] at p1
                        have hlen5 : ((put2 c.most now (put1 e (c.ord.map It.ent))).length : Int) = c5.its.length := by rw [← k3, List.length_map, k1.at'.len]
                        have hl5 : ∀ n, (Builtin.len_ #[87] 3 #[mv5]).run Try.prog (wc.drewN n) = .ok (.int .i64 ((put2 c.most now (put1 e (c.ord.map It.ent))).length : Int)) (wc.drewN n) := fun n => by
                          rw [hlen5, hmv5]; exact len_map (k1.at'.drewN n) _
                        have K1 := Lib.hid k1
                        have K3' := Lib.hid k3
                        have Hlen5 := Lib.hid hlen5
                        clear k1 k3 p3 g0 hlen5 hmost5 hcb5 K3 K5 Hlen4 hmv5
                        generalize wc = w11 at *
                        go_upto_region 17 with fail
                        go_cut [121] (fun v wx => Below w11.heap.size w11 wx ∧ v = .bool (decide (M < ((put2 c.most now (put1 e (c.ord.map It.ent))).length : Int))))
                        case first =>
                          clear p2
                          go_quiet (fail)
                          all_goals (go_wp2_with fail; go_meet; exact ⟨bel_drewN w11 _, rfl⟩)
                        case rest =>
                          obtain ⟨hb, rfl⟩ := hcut
                          have hk := K1.out.trans (After.below K1.out.at' hb)
                          have K5 := Lib.hid hk
                          clear hb p0 p1 p2 hl5 K1
                          generalize wc = w12 at *
                          by_cases hq : M < ((put2 c.most now (put1 e (c.ord.map It.ent))).length : Int)
                          · have hd := decide_eq_true hq
                            rw [hd]
                            obtain ⟨⟨p0, p1, p2, p3⟩, g0⟩ := hk.at'.cells
                            rw [hk.cb] at p2
                            have hM1 : 1 ≤ M := (by rw [HM.out]; exact Int.le_max_right _ _)
                            have hpos : 0 < c5.its.length := by (have h1 := Hlen5.out; rw [h1] at hq; omega)
                            obtain ⟨g, gc, hsv, hrow⟩ : ∃ g gc, c5.sv = .slice (some ⟨g, 0, none⟩) c5.its.length gc ∧ HeapRow w12 g gc c5.its := by
                              rcases hk.at'.stale with ⟨_, q⟩ | ⟨g, gc, q, _, q2⟩
                              · rw [q] at hpos; exact absurd hpos (Nat.lt_irrefl _)
                              · exact ⟨g, gc, q, q2⟩
                            rw [hsv] at p2
                            have hmin := minFunc_any g gc c5.its w12 hrow hpos (by have := hk.at'.few; omega)
                            have Hmin := Lib.hid hmin
                            have Hq := Lib.hid hq
                            clear hmin hq hrow hsv hk p0 p1 p3 g0
                            go_wp2_with fail
                            refine Hmin.out.mono ?_
                            rintro r w13 ⟨⟨x, hx, rfl, hall⟩, hb⟩
                            have hk := K5.out.trans (After.below K5.out.at' hb)
                            have hdrop := drop_after c5 x w13 hk.at' hx
                            rw [hk.cb] at hdrop
                            unfold It.ptr at hdrop ⊢
                            have K6 := Lib.hid hk
                            have Hdrop := Lib.hid hdrop
                            have Hx := Lib.hid hx
                            have Hall := Lib.hid hall
                            clear hk hdrop hx hall hb
                            go_wp2_with fail
                            refine Hdrop.out.mono ?_
                            rintro r w14 ⟨rfl, c6, q1, q2, q3⟩
                            have fin : Putted w c e now (.returned (.bool true)) w14 := by
                              refine ⟨c6, by rw [Hok.out], K6.out.trans q1, by omega, by omega, ?_⟩
                              rw [if_pos Hok.out, q3, drop_first K6.out.at' Hx.out Hall.out, List.map_tail, K3'.out]
                              unfold putL put3
                              rw [if_pos (by rw [← HM.out]; exact Hq.out)]
                            have Fin := Lib.hid fin
                            clear fin q1 q3
                            go_wp2_with fail
                            go_ret
                            exact Fin.out
                          · have hd := decide_eq_false hq
                            rw [hd]
                            have fin : Putted w c e now (.returned (.bool true)) w12 := by
                              refine ⟨c5, by rw [Hok.out], K5.out, by omega, by omega, ?_⟩
                              rw [if_pos Hok.out, K3'.out]
                              unfold putL put3
                              rw [if_neg (by rw [← HM.out]; exact hq)]
                            have Fin := Lib.hid fin
                            clear fin hq hk
                            go_wp2_with fail
                            go_ret
                            exact Fin.out
  · have hcb : (cchk e != 0) = true := bne_iff_ne.2 hc
    have Hc := Lib.hid hc
    clear hc
    go_wp2_with fail
    go_ret
    exact put_no H.out Hb1.out (by unfold putOk; rw [decide_eq_false Hc.out]; simp)
end Go.Proofs.Ytihfapnipifiiaa
