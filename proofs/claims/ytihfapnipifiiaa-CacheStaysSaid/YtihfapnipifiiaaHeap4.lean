/- The walks of the heap's methods: Push, Pop. -/
import Derived.Test.YtihfapnipifiiaaHeap3
namespace Go.Proofs.Ytihfapnipifiiaa
open Go Go.RowKit Go.Shelf

theorem info_item : (Try.prog.info? 100).map (fun i => (i.zero, i.size, i.bytes)) = some (some (.pointer none), 1, 8) := by kernel_rfl

theorem own_of_row {W : World} {g cap : Nat} {e : TypeId} {base : Nat} {xs : List Value} (hb : base ≤ g) (hn : xs.length ≤ cap) (hm : cap ≤ maxLen)
    (h : RowIs W g e cap (fun i => xs.getD i undef) xs.length) : W.ownsRow base e 1 (.slice (some ⟨g, 0, none⟩) xs.length cap) xs.length xs := by
  obtain ⟨cur, h1, h2, h3⟩ := h
  refine ⟨by simp, .inr ⟨g, cap, cur, rfl, hb, h1, hn, hm, by omega, ?_⟩⟩
  apply List.ext_getElem?
  intro i
  rw [Nat.mul_one]
  by_cases hi : i < xs.length
  · rw [List.getElem?_take_of_lt hi, Array.getElem?_toList, h3 i hi, List.getElem?_eq_getElem hi]
    simp [List.getD, List.getElem?_eq_getElem hi]
  · rw [List.getElem?_take, if_neg hi, List.getElem?_eq_none (by omega)]
theorem row_of_own {W : World} {g n cap : Nat} {e : TypeId} {base : Nat} {xs : List Value} (h : W.ownsRow base e 1 (.slice (some ⟨g, 0, none⟩) n cap) n xs) :
    n = xs.length ∧ base ≤ g ∧ n ≤ cap ∧ cap ≤ maxLen ∧ RowIs W g e cap (fun i => xs.getD i undef) xs.length := by
  obtain ⟨hl, h | ⟨g', cap', cur, e', hb, hh, hn, hm, hs, ht⟩⟩ := h
  · cases h.1
  · cases e'
    have hlen : n = xs.length := by omega
    refine ⟨hlen, hb, hn, hm, cur, hh, by omega, fun i hi => ?_⟩
    have hc := congrArg (fun l => l[i]?) ht
    simp only [Nat.mul_one] at hc
    rw [List.getElem?_take_of_lt (by omega), List.getElem?_eq_getElem hi, Array.getElem?_toList] at hc
    rw [hc]; simp [List.getD, List.getElem?_eq_getElem hi]

/-- A heap's slice. -/
def StaleV (W : World) (base : Nat) (v : Value) (its : List It) : Prop :=
  (v = .slice none 0 0 ∧ its = []) ∨ ∃ g cap, v = .slice (some ⟨g, 0, none⟩) its.length cap ∧ base ≤ g ∧ HeapRow W g cap its
theorem ptr_getD (its : List It) (i : Nat) : ((its[i]?).map It.ptr).getD undef = (its.map It.ptr).getD i undef := by
  simp [List.getD]
theorem HeapRow.own {W : World} {g cap base : Nat} {its : List It} (h : HeapRow W g cap its) (hb : base ≤ g) : W.ownsRow base 100 1 (.slice (some ⟨g, 0, none⟩) its.length cap) its.length (its.map It.ptr) := by
  have := own_of_row (W := W) (g := g) (cap := cap) (e := 100) (base := base) (xs := its.map It.ptr) hb (by simpa using h.le) h.most (by simpa using h.row.congr (fun i _ => ptr_getD its i))
  simpa using this
theorem StaleV.own {W : World} {base : Nat} {v : Value} {its : List It} (h : StaleV W base v its) : W.ownsRow base 100 1 v its.length (its.map It.ptr) := by
  rcases h with ⟨rfl, rfl⟩ | ⟨g, cap, rfl, hb, h⟩
  · exact World.ownsRow_nil _ _ _ _
  · exact h.own hb
theorem StaleV.items {W : World} {base : Nat} {v : Value} {its : List It} (h : StaleV W base v its) : (∀ i x, its[i]? = some x → ItemAt W x i) ∧ (its.map It.blk).Nodup := by
  rcases h with ⟨rfl, rfl⟩ | ⟨g, cap, rfl, hb, h⟩
  · exact ⟨fun i x h => by simp at h, by simp⟩
  · exact ⟨h.items, h.nodup⟩
theorem StaleV.shape {W : World} {base : Nat} {v : Value} {its : List It} (h : StaleV W base v its) : ∃ A cap, v = .slice A its.length cap := by
  rcases h with ⟨rfl, rfl⟩ | ⟨g, cap, rfl, hb, h⟩
  · exact ⟨none, 0, rfl⟩
  · exact ⟨_, _, rfl⟩
theorem HeapRow.of_own {W : World} {g n cap base : Nat} {its : List It} (h : W.ownsRow base 100 1 (.slice (some ⟨g, 0, none⟩) n cap) n (its.map It.ptr)) (hi : ∀ i x, its[i]? = some x → ItemAt W x i) (hn : (its.map It.blk).Nodup) : HeapRow W g cap its ∧ base ≤ g ∧ n = its.length := by
  obtain ⟨h1, h2, h3, h4, h5⟩ := row_of_own h
  simp only [List.length_map] at h1 h5
  exact ⟨⟨h5.congr (fun i _ => (ptr_getD its i).symm), hi, hn, by omega, h4⟩, h2, h1⟩

theorem run_assert_item (v : Value) (w : World) : (Instr.typeAssert (.iface 100 v) 20 100 false).run Try.prog w = .ok v w := by kernel_rfl

theorem StaleV.own_ne {W : World} {base : Nat} {v : Value} {its : List It} (h : StaleV W base v its) {x : It} {a : Nat} (hx : ItemAt W x a) : v.ownBlock ≠ some x.blk := by
  rcases h with ⟨rfl, _⟩ | ⟨g, cap, rfl, _, h⟩
  · simp [Value.ownBlock]
  · intro e
    have e' : g = x.blk := by simpa [Value.ownBlock] using e
    obtain ⟨cur, h1, _⟩ := h.row
    unfold ItemAt at hx
    rw [← e', h1] at hx; cases hx

/-- A block in which one cell alone was set. -/
def SaBlk (w w' : World) (sa : Addr) (v : Value) : Prop := w'.heap[sa.block]? = (w.setCell sa v).heap[sa.block]?
theorem SaBlk.of {w w2 : World} {sa : Addr} (v : Value) (h : w2.heap[sa.block]? = w.heap[sa.block]?) : SaBlk w (w2.setCell sa v) sa v := by
  simp [SaBlk, World.setCell, Array.getElem?_modify, h]
theorem SaBlk.before {w w1 w2 : World} {sa : Addr} {v : Value} (h : w1.heap[sa.block]? = w.heap[sa.block]?) (k : SaBlk w1 w2 sa v) : SaBlk w w2 sa v := by
  unfold SaBlk at *
  rw [k]
  simp [World.setCell, Array.getElem?_modify, h]
theorem SaBlk.behind {w w1 w2 : World} {sa : Addr} {v : Value} (k : SaBlk w w1 sa v) (h : w2.heap[sa.block]? = w1.heap[sa.block]?) : SaBlk w w2 sa v := by
  unfold SaBlk at *
  rw [h, k]

/-- Behind Push. -/
theorem push_fin {base : Nat} {v v' : Value} {x : It} {a0 n g cap : Nat} {sa : Addr} {its : List It} {w w2 : World} {o : Obj} (h : StaleV w base v its) (hs : w.cell? sa = some v) (fs : w.frozen? sa = false)
    (hx : ItemAt w x a0) (hxn : x.blk ∉ its.map It.blk) (hsx : sa.block ≠ x.blk) (hsi : sa.block ∉ its.map It.blk) (hsb : sa.block < base) (hn : n = its.length) (hxb : base ≤ w.heap.size)
    (hv : v' = .slice (some ⟨g, 0, none⟩) (n + 1) cap)
    (hown : w2.ownsRow base 100 1 v' (n + 1) (its.map It.ptr ++ [x.ptr])) (hg : ((w.setCell ⟨x.blk, 11, none⟩ (.int .i64 n)).alloc o).grownBy w2 v.ownBlock) (hl : v.ownBlock = some g ∨ g = w.heap.size + 1) :
    ∃ v'', (w2.setCell sa v').cell? sa = some v'' ∧ (w2.setCell sa v').frozen? sa = false ∧ StaleV (w2.setCell sa v') base v'' (its ++ [x]) ∧ ModS (fun k => k = sa.block ∨ k = x.blk ∨ v.ownBlock = some k) w (w2.setCell sa v') ∧ (∀ k, v''.ownBlock = some k → v.ownBlock = some k ∨ w.heap.size ≤ k) ∧ SaBlk w (w2.setCell sa v') sa v'' := by
  have hne := h.own_ne hx
  have hxl := hx.lt
  -- a block that is none of these is kept in w2
  have keep : ∀ k, k < w.heap.size → k ≠ x.blk → v.ownBlock ≠ some k → w2.heap[k]? = w.heap[k]? := fun k hk h1 h2 =>
    (hg.block k (by simp [World.setCell]; omega) (fun e => h2 e.symm)).trans ((Below.heap_alloc _ o k (by simpa [World.setCell] using hk)).trans (Below.heap_setCell _ _ _ _ h1))
  have hxw2 : ItemAt w2 x n := by
    refine ItemAt.same (W := w.setCell ⟨x.blk, 11, none⟩ (.int .i64 n)) (hx.setAt n) ?_
    exact (hg.block x.blk (by simp [World.setCell]; omega) (fun e => hne e.symm)).trans (Below.heap_alloc _ o x.blk (by simpa [World.setCell] using hxl))
  have hsv : v.ownBlock ≠ some sa.block := by
    intro e
    have := (own_cells h.own _ e).1; omega
  have hsl := blk_of_cell hs
  have hs2 : w2.cell? sa = some v := (World.cell?_of_block (keep _ hsl hsx hsv)).trans hs
  have hitems := h.items
  have hrow := HeapRow.of_own (its := its ++ [x]) (g := g) (n := n + 1) (cap := cap) (W := w2.setCell sa v') (base := base)
    (by rw [List.map_append, ← hv]; exact own_set hown hsb _)
    (fun i y hy => by
      rw [List.getElem?_append] at hy
      split at hy
      · rename_i hi
        have hy' := hitems.1 i y hy
        have hyb : y.blk ≠ x.blk := fun e => hxn (by rw [← e]; exact mem_blk hy)
        have hys : y.blk ≠ sa.block := fun e => hsi (by rw [← e]; exact mem_blk hy)
        exact (hy'.same (keep _ hy'.lt hyb (h.own_ne hy'))).same (Below.heap_setCell _ _ _ _ hys)
      · rename_i hi
        have e : i = n := by
          have h1 := (List.getElem?_eq_some_iff.1 hy).1
          simp at h1; omega
        subst e
        rw [hn, Nat.sub_self] at hy
        cases hy
        exact hxw2.same (Below.heap_setCell _ _ _ _ (fun e => hsx e.symm)))
    (by
      rw [List.map_append, List.map_cons, List.map_nil, List.nodup_append]
      refine ⟨hitems.2, by simp, ?_⟩
      intro a ha b hb
      simp only [List.mem_singleton] at hb
      subst hb
      exact fun e => hxn (e ▸ ha))
  refine ⟨v', cell_set_same hs2, ?_, ?_, ?_, ?_, SaBlk.of v' (keep _ hsl hsx hsv)⟩
  · rw [World.frozen?_setCell, World.frozen?_of_block (keep _ hsl hsx hsv)]; exact fs
  · right
    exact ⟨g, cap, by rw [hv, hrow.2.2], hrow.2.1, hrow.1⟩
  · refine ModS.set ?_ (.inl rfl) _
    exact (((ModS.refl _ w).set (.inr (.inl rfl)) _).alloc o).grown hg (fun j hj => .inr (.inr hj))
  · intro k hk
    rw [hv] at hk
    have : g = k := by simpa [Value.ownBlock] using hk
    subst this
    rcases hl with h | h
    · exact .inl h
    · right; omega

set_option maxRecDepth 100000 in
set_option maxHeartbeats 2000000 in
theorem hpush_any (base : Nat) (v : Value) (x : It) (a0 : Nat) (sa : Addr) (its : List It) (w : World) (h : StaleV w base v its) (hs : w.cell? sa = some v) (fs : w.frozen? sa = false)
    (hx : ItemAt w x a0) (hxn : x.blk ∉ its.map It.blk) (hsx : sa.block ≠ x.blk) (hsi : sa.block ∉ its.map It.blk) (hsb : sa.block < base) (hxb : base ≤ w.heap.size) (hlen : its.length ≤ 1099511627776) :
    Calls Try.prog 161 #[.pointer (some sa), .iface 100 x.ptr] w fun e w' => e = .returned (.tuple #[]) ∧
      ∃ v', w'.cell? sa = some v' ∧ w'.frozen? sa = false ∧ StaleV w' base v' (its ++ [x]) ∧ ModS (fun k => k = sa.block ∨ k = x.blk ∨ v.ownBlock = some k) w w' ∧ (∀ k, v'.ownBlock = some k → v.ownBlock = some k ∨ w.heap.size ≤ k) ∧ SaBlk w w' sa v' := by
  obtain ⟨i0, hi, hz0, hz1, hz2⟩ := info_parts info_item
  obtain ⟨A, cap, rfl⟩ := h.shape
  have c1 := hx.cell (o := 11) rfl
  have d1 := hx.free 11
  have hlt := hx.lt
  have H := Lib.hid h
  have Hx := Lib.hid hx
  have Hne := Lib.hid (h.own_ne hx)
  have Hs := Lib.hid hs
  have Fs := Lib.hid fs
  clear h hx
  generalize hn : its.length = n at *
  have hs1 : (w.setCell ⟨x.blk, 11, none⟩ (.int .i64 n)).cell? sa = some (.slice A n cap) := (cell_set_ne hsx).trans hs
  have Hn := Lib.hid hn
  have hown0 := H.out.own
  have hown1 := ownsRow_setCell_other hown0 (a := ⟨x.blk, 11, none⟩) Hne.out (.int .i64 n)
  rw [hn] at hown1
  have Hown := Lib.hid (hown1.alloc (.cells #[x.ptr] 100))
  clear hn hown0 hown1
  have hta := run_assert_item
  unfold It.ptr at *
  have hsz1 : (w.setCell ⟨x.blk, 11, none⟩ (.int .i64 n)).heap.size = w.heap.size := by simp [World.setCell]
  have Hsz := Lib.hid hsz1
  clear hsz1
  have q3 : n + 1 ≤ maxLen := by unfold maxLen; omega
  have q4 : (n + 1) * 8 ≤ 140737488355328 := by omega
  go_enter Try.func161, Try.ntmps161
  go_wp2_with (at_builtin; refine wpList_append_lies _ rfl _ _ 89 rfl base 100 i0 (.pointer none) 1 8 Try.underlying89 hi hz0 hz1 hz2 rfl (by decide) _ _ _ rfl Hown.out ⟨w.heap.size, 0, none⟩ 1 1 [.pointer (some ⟨x.blk, 0, none⟩)] rfl rfl ?c1 ?c2 (by omega) q3 q4 ?c5 _ rfl ?_)
  case c1 => have := cell_one_new (w.setCell ⟨x.blk, 11, none⟩ (.int .i64 n)) (.pointer (some ⟨x.blk, 0, none⟩)) 100; rw [Hsz.out] at this; exact this
  case c2 => intro u hu; simp only [List.mem_singleton] at hu; subst hu; rfl
  case c5 => rw [World.size_alloc, Hsz.out]; omega
  intro g cap' w2 hown2 hgrow2 hlies hlt2
  have hnsa : (Value.slice A n cap).ownBlock ≠ some sa.block := by
    intro e
    have := (own_cells Hown.out _ e).1; omega
  have hs2 := (grown_cell hgrow2 (alloc_cell hs1 _).1 hnsa).1
  have fs2 : w2.frozen? sa = false := (grown_cell hgrow2 (alloc_cell hs1 _).1 hnsa).2.trans ((alloc_cell hs1 _).2.trans (frozen_set.trans Fs.out))
  have Hown2 := Lib.hid hown2
  have Hgrow2 := Lib.hid hgrow2
  have Hlies := Lib.hid hlies
  clear hown2 hgrow2 hlies hnsa
  go_wp2
  go_end0
  exact ⟨rfl, push_fin H.out Hs.out Fs.out Hx.out hxn hsx hsi hsb Hn.out.symm hxb rfl Hown2.out Hgrow2.out Hlies.out⟩

theorem HeapRow.init {W : World} {g cap : Nat} {its : List It} {x : It} (h : HeapRow W g cap (its ++ [x])) : HeapRow W g cap its := by
  obtain ⟨⟨cur, c1, c2, c3⟩, hi, hn, hl, hm⟩ := h
  refine ⟨⟨cur, c1, c2, fun i hi' => ?_⟩, fun i y hy => hi i y ?_, ?_, ?_, hm⟩
  · rw [c3 i (by simp; omega)]; dsimp only; rw [List.getElem?_append_left hi']
  · have := (List.getElem?_eq_some_iff.1 hy).1
    rw [List.getElem?_append_left this]; exact hy
  · rw [List.map_append] at hn; exact (List.nodup_append.1 hn).1
  · simp at hl; omega
theorem HeapRow.same {W W' : World} {g cap : Nat} {its : List It} (h : HeapRow W g cap its) (hk : ∀ k, (k = g ∨ k ∈ its.map It.blk) → W'.heap[k]? = W.heap[k]?) : HeapRow W' g cap its := by
  obtain ⟨⟨cur, c1, c2, c3⟩, hi, hn, hl, hm⟩ := h
  exact ⟨⟨cur, (hk g (.inl rfl)).trans c1, c2, c3⟩, fun i y hy => (hi i y hy).same (hk _ (.inr (mem_blk hy))), hn, hl, hm⟩

set_option maxRecDepth 100000 in
set_option maxHeartbeats 2000000 in
theorem hpop_any (base g cap : Nat) (sa : Addr) (its : List It) (x : It) (w : World) (h : HeapRow w g cap (its ++ [x])) (hb : base ≤ g) (hs : w.cell? sa = some (.slice (some ⟨g, 0, none⟩) (its.length + 1) cap)) (fs : w.frozen? sa = false)
    (hsg : sa.block ≠ g) (hsx : sa.block ∉ (its ++ [x]).map It.blk) :
    Calls Try.prog 160 #[.pointer (some sa)] w fun e w' => e = .returned (.iface 100 x.ptr) ∧
      w'.cell? sa = some (.slice (some ⟨g, 0, none⟩) its.length cap) ∧ w'.frozen? sa = false ∧ HeapRow w' g cap its ∧ ModS (fun k => k = sa.block) w w' ∧ SaBlk w w' sa (.slice (some ⟨g, 0, none⟩) its.length cap) := by
  have hx : (its ++ [x])[its.length]? = some x := by simp
  have r1 := (h.rowAt hx).1
  have hmost : its.length + 1 ≤ 9223372036854775807 := by have := h.le; have h2 := h.most; unfold maxLen at h2; simp at this; omega
  have hcap : its.length ≤ cap := by have := h.le; simp at this; omega
  have H := Lib.hid h
  have Hs := Lib.hid hs
  clear h hx
  generalize hn : its.length = n at *
  have Hn := Lib.hid hn
  clear hn
  unfold It.ptr
  go_enter Try.func160, Try.ntmps160
  go_wp2
  go_ret
  refine ⟨rfl, cell_set_same Hs.out, frozen_set.trans fs, ?_, (ModS.refl (fun k => k = sa.block) w).set (p := sa) rfl _, SaBlk.of _ rfl⟩
  have hinit := H.out.init
  exact hinit.same (fun k hk => Below.heap_setCell _ _ _ _ (fun e => hk.elim (fun h1 => hsg (by rw [← e]; exact h1)) (fun h2 => hsx (by rw [← e, List.map_append]; exact List.mem_append.2 (.inl h2)))))
end Go.Proofs.Ytihfapnipifiiaa
