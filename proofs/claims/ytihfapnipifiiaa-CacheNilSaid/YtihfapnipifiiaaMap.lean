/- The cache's map: its entries, one for each item. The walks of slices.Clone of records and of cache.copied. Plain laws of a heap: what 'up', 'down' and 'Remove' make of a row keeps the heap's order. -/
import Derived.Test.YtihfapnipifiiaaRef5
import Derived.MapKept
import Derived.Test.YtihfapnipifiiaaCheck
import Derived.Maps.AppendAt
import Derived.Lib.LazyBuf
import Derived.Test.YtihfapnipifiiaaHeap
set_option linter.unusedVariables false
set_option linter.unusedSimpArgs false
/- The cache's map: its entries, one for each item. -/
namespace Go.Proofs.Ytihfapnipifiiaa
open Go Go.RowKit Go.Shelf Go.MapKept

def It.ent2 (x : It) : Value × Value := (.string (bs x.ent.key), x.ptr)
/-- The map of a cache: an entry for each item. -/
def MapRow (W : World) (mb : Nat) (its : List It) : Prop :=
  ∃ es clk, W.heap[mb]? = some (.map es clk) ∧ Stamped es clk ∧ (es.toList.map fun x => (x.key, x.val)).Perm (its.map It.ent2)

theorem MapRow.keys {its : List It} {es : Array MapEntry} (hp : (es.toList.map fun x => (x.key, x.val)).Perm (its.map It.ent2)) : ∀ x ∈ es.toList, IsKey .string x.key := by
  intro x hx
  have := hp.mem_iff.1 (List.mem_map.2 ⟨x, hx, rfl⟩)
  obtain ⟨y, _, e⟩ := List.mem_map.1 this
  have e1 : x.key = .string (bs y.ent.key) := (congrArg Prod.fst e).symm
  rw [e1]; trivial
theorem MapRow.entry {its : List It} {es : Array MapEntry} (hp : (es.toList.map fun x => (x.key, x.val)).Perm (its.map It.ent2)) {x : It} (hx : x ∈ its) : ∃ e ∈ es.toList, e.key = .string (bs x.ent.key) ∧ e.val = x.ptr := by
  have := hp.mem_iff.2 (List.mem_map.2 ⟨x, hx, rfl⟩)
  obtain ⟨e, he, h⟩ := List.mem_map.1 this
  exact ⟨e, he, congrArg Prod.fst h, congrArg Prod.snd h⟩
theorem MapRow.item {its : List It} {es : Array MapEntry} (hp : (es.toList.map fun x => (x.key, x.val)).Perm (its.map It.ent2)) {e : MapEntry} (he : e ∈ es.toList) : ∃ x ∈ its, e.key = .string (bs x.ent.key) ∧ e.val = x.ptr := by
  have := hp.mem_iff.1 (List.mem_map.2 ⟨e, he, rfl⟩)
  obtain ⟨x, hx, h⟩ := List.mem_map.1 this
  exact ⟨x, hx, (congrArg Prod.fst h).symm, (congrArg Prod.snd h).symm⟩
theorem MapRow.nodup {W : World} {mb : Nat} {its : List It} (h : MapRow W mb its) : (its.map fun x => x.ent.key).Nodup := by
  obtain ⟨es, clk, hb, hs, hp⟩ := h
  have h1 : (es.toList.map (·.key)).Perm (its.map fun x => (Value.string (bs x.ent.key))) := by
    have := hp.map Prod.fst
    simpa [List.map_map, Function.comp_def, It.ent2] using this
  have h2 := h1.nodup_iff.1 hs.2.2
  have h3 : (its.map fun x => (Value.string (bs x.ent.key))) = (its.map fun x => x.ent.key).map fun k => Value.string (bs k) := by rw [List.map_map]; rfl
  rw [h3] at h2
  exact (List.pairwise_map.1 h2).imp (fun h e => h (congrArg (fun k => Value.string (bs k)) e))
theorem MapRow.perm {W : World} {mb : Nat} {its jts : List It} (h : MapRow W mb its) (hp : its.Perm jts) : MapRow W mb jts := by
  obtain ⟨es, clk, hb, hs, h⟩ := h
  exact ⟨es, clk, hb, hs, h.trans (hp.map _)⟩
theorem MapRow.same {W W' : World} {mb : Nat} {its : List It} (h : MapRow W mb its) (e : W'.heap[mb]? = W.heap[mb]?) : MapRow W' mb its := by
  obtain ⟨es, clk, hb, hs, h⟩ := h
  exact ⟨es, clk, e.trans hb, hs, h⟩
/-- Items that have the same keys and blocks. -/
theorem MapRow.alike {W : World} {mb : Nat} {its jts : List It} (h : MapRow W mb its) (e : its.map It.ent2 = jts.map It.ent2) : MapRow W mb jts := by
  obtain ⟨es, clk, hb, hs, h⟩ := h
  exact ⟨es, clk, hb, hs, by rw [← e]; exact h⟩

def mapT : TypeId := 87
theorem mapT_u : Try.prog.underlying 87 = some (.map 9 100) := Try.underlying87
theorem zero_ptr (W : World) : (zeroValue 100).run Try.prog W = .ok (.pointer none) W := by
  have h0 : (Try.prog.info? 100).map (fun i => i.zero) = some (some (.pointer none)) := by kernel_rfl
  cases hi : Try.prog.info? 100 with
  | none => rw [hi] at h0; cases h0
  | some i =>
    rw [hi] at h0
    have hz : i.zero = some (.pointer none) := Option.some.inj h0
    simp [zeroValue, typeInfo, Result.andThen, hi, hz]

theorem look_hit {W : World} {mb : Nat} {its : List It} (h : MapRow W mb its) {x : It} (hx : x ∈ its) :
    (Instr.lookup 87 (.map (some mb)) (.string (bs x.ent.key)) true).run Try.prog W = .ok (.tuple #[x.ptr, .bool true]) W := by
  have hnd := h.nodup
  obtain ⟨es, clk, hb, hs, hp⟩ := h
  obtain ⟨e, he, hk, hv⟩ := MapRow.entry hp hx
  rcases findNow_spec (d := .string) (k := .string (bs x.ent.key)) trivial es.toList 0 (MapRow.keys hp) with ⟨h1, h2⟩ | ⟨j, e', h1, h2, h3⟩
  · exact absurd hk (h2 e he)
  · have he' := List.mem_of_getElem? h2
    have hee : e' = e := by
      have := hs.2.2
      obtain ⟨i1, hi1, g1⟩ := List.getElem_of_mem he'
      obtain ⟨i2, hi2, g2⟩ := List.getElem_of_mem he
      have h4 : (es.toList.map (·.key))[i1]'(by simpa using hi1) = (es.toList.map (·.key))[i2]'(by simpa using hi2) := by
        rw [List.getElem_map, List.getElem_map, g1, g2, h3, hk]
      have h5 := (List.getElem_inj this).1 h4
      subst h5
      rw [← g1, g2]
    rw [hee, hv] at h1
    simp [Instr.lookup, run_underlying mapT_u, MapKept.run_getObj_map hb, run_checkKey Try.underlying9 (k := .string (bs x.ent.key)) trivial, run_findKey Try.underlying9 h1, Result.andThen]
theorem look_miss {W : World} {mb : Nat} {its : List It} (h : MapRow W mb its) {k : List UInt8} (hx : ∀ x ∈ its, x.ent.key ≠ k) :
    (Instr.lookup 87 (.map (some mb)) (.string (bs k)) true).run Try.prog W = .ok (.tuple #[.pointer none, .bool false]) W := by
  obtain ⟨es, clk, hb, hs, hp⟩ := h
  rcases findNow_spec (d := .string) (k := .string (bs k)) trivial es.toList 0 (MapRow.keys hp) with ⟨h1, h2⟩ | ⟨j, e', h1, h2, h3⟩
  · simp [Instr.lookup, run_underlying mapT_u, MapKept.run_getObj_map hb, run_checkKey Try.underlying9 (k := .string (bs k)) trivial, run_findKey Try.underlying9 h1, Result.andThen, zero_ptr]
  · obtain ⟨y, hy, hk, _⟩ := MapRow.item hp (List.mem_of_getElem? h2)
    rw [hk] at h3
    exact absurd (bs_inj (by injection h3)) (hx y hy)
theorem look_nil (k : ByteArray) (W : World) :
    (Instr.lookup 87 (.map none) (.string k) true).run Try.prog W = .ok (.tuple #[.pointer none, .bool false]) W := by
  have h1 : Instr.findNow .string (.string k) [] 0 = some none := rfl
  simp [Instr.lookup, run_underlying mapT_u, run_checkKey Try.underlying9 (k := .string k) trivial, run_findKey Try.underlying9 h1, Result.andThen, zero_ptr]

/-- A world in which a block has turned. -/
def putObj (W : World) (b : Nat) (o : Obj) : World := { W with heap := W.heap.setIfInBounds b o }
theorem putObj_size (W : World) (b : Nat) (o : Obj) : (putObj W b o).heap.size = W.heap.size := by simp [putObj]
theorem putObj_at {W : World} {b : Nat} {o o' : Obj} (h : W.heap[b]? = some o) : (putObj W b o').heap[b]? = some o' := (heap_set h).1
theorem putObj_far {W : World} {b : Nat} {o o' : Obj} (h : W.heap[b]? = some o) (k : Nat) (hk : k ≠ b) : (putObj W b o').heap[k]? = W.heap[k]? := (heap_set h).2 k hk
theorem ModS.putObj {S : Nat → Prop} {w W : World} (h : ModS S w W) (b : Nat) (o : Obj) (hb : S b) : ModS S w (putObj W b o) :=
  h.trans ⟨rfl, rfl, rfl, by simp [Proofs.Ytihfapnipifiiaa.putObj], fun k _ hn => by
    have : b ≠ k := fun e => hn (e ▸ hb)
    simp [Proofs.Ytihfapnipifiiaa.putObj, this]⟩

/-- A new entry. -/
theorem map_new {W : World} {mb : Nat} {its : List It} (h : MapRow W mb its) (x : It) (hx : ∀ y ∈ its, y.ent.key ≠ x.ent.key) :
    ∃ o, (Instr.mapUpdate 87 (.map (some mb)) (.string (bs x.ent.key)) x.ptr).run Try.prog W = .ok () (putObj W mb o) ∧ MapRow (putObj W mb o) mb (its ++ [x]) := by
  obtain ⟨es, clk, hb, hs, hp⟩ := h
  rcases findNow_spec (d := .string) (k := .string (bs x.ent.key)) trivial es.toList 0 (MapRow.keys hp) with ⟨h1, h2⟩ | ⟨j, e', h1, h2, h3⟩
  · refine ⟨.map (es.push { key := .string (bs x.ent.key), val := x.ptr, born := clk }) (clk + 1), ?_, _, _, putObj_at hb, stamped_push hs h2, ?_⟩
    · simp [Instr.mapUpdate, run_underlying mapT_u, MapKept.run_getObj_map hb, run_checkKey Try.underlying9 (k := .string (bs x.ent.key)) trivial, run_findKey Try.underlying9 h1, run_setObj_map _ hb, Result.andThen, putObj]
    · rw [Array.toList_push, List.map_append, List.map_append]
      exact hp.append_right _
  · obtain ⟨y, hy, hk, _⟩ := MapRow.item hp (List.mem_of_getElem? h2)
    rw [hk] at h3
    exact absurd (bs_inj (by injection h3)) (hx y hy)

/-- An entry goes. -/
theorem map_del {W : World} {mb : Nat} {its : List It} {x : It} (h : MapRow W mb (x :: its)) :
    ∃ o, (Builtin.delete_ #[87, 9] 0 #[.map (some mb), .string (bs x.ent.key)]).run Try.prog W = .ok (.tuple #[]) (putObj W mb o) ∧ MapRow (putObj W mb o) mb its := by
  have hnd := h.nodup
  obtain ⟨es, clk, hb, hs, hp⟩ := h
  obtain ⟨e, he, hk, hv⟩ := MapRow.entry hp (List.mem_cons_self)
  rcases findNow_spec (d := .string) (k := .string (bs x.ent.key)) trivial es.toList 0 (MapRow.keys hp) with ⟨h1, h2⟩ | ⟨j, e', h1, h2, h3⟩
  · exact absurd hk (h2 e he)
  · have he' := List.mem_of_getElem? h2
    have hjl : j < es.size := by have := (List.getElem?_eq_some_iff.1 h2).1; simpa using this
    rw [Nat.zero_add] at h1
    refine ⟨.map (es.eraseIdxIfInBounds j) clk, ?_, _, _, putObj_at hb, stamped_erase hs j, ?_⟩
    · simp [Builtin.delete_, run_underlying mapT_u, MapKept.run_getObj_map hb, run_checkKey Try.underlying9 (k := .string (bs x.ent.key)) trivial, run_findKey Try.underlying9 h1, run_setObj_map _ hb, Result.andThen, putObj]
    · have hv' : e'.val = x.ptr := by
        obtain ⟨y, hy, hk2, hv2⟩ := MapRow.item hp he'
        rw [hv2]
        rw [hk2] at h3
        have hkk : y.ent.key = x.ent.key := bs_inj (by injection h3)
        rcases List.mem_cons.1 hy with rfl | hy
        · rfl
        · rw [List.map_cons, List.nodup_cons] at hnd
          exact absurd (List.mem_map.2 ⟨y, hy, hkk⟩) hnd.1
      have h4 : es.toList.Perm (e' :: es.toList.eraseIdx j) := by
        have h5 : es.toList[j]'(by simpa using hjl) = e' := by rw [List.getElem?_eq_getElem (by simpa using hjl)] at h2; exact Option.some.inj h2
        rw [← h5]
        rw [List.eraseIdx_eq_take_drop_succ]
        refine List.Perm.trans (List.Perm.of_eq ?_) List.perm_middle
        rw [← List.drop_eq_getElem_cons, List.take_append_drop]
      have h5 := (h4.map fun x => (x.key, x.val)).symm.trans hp
      rw [List.map_cons, List.map_cons] at h5
      have h6 : (e'.key, e'.val) = x.ent2 := by rw [h3, hv']; rfl
      rw [h6] at h5
      have h7 := (List.perm_cons _).1 h5
      have h8 : (es.eraseIdxIfInBounds j).toList = es.toList.eraseIdx j := by
        unfold Array.eraseIdxIfInBounds
        rw [dif_pos hjl, Array.toList_eraseIdx]
      rw [h8]; exact h7

theorem map_len {W : World} {mb : Nat} {its : List It} (h : MapRow W mb its) (T : TypeId) :
    (Builtin.len_ #[87] T #[.map (some mb)]).run Try.prog W = .ok (.int .i64 its.length) W := by
  obtain ⟨es, clk, hb, hs, hp⟩ := h
  have : es.size = its.length := by simpa using hp.length_eq
  simp [Builtin.len_, run_underlying mapT_u, MapKept.run_getObj_map hb, Result.andThen, goInt, this]
end Go.Proofs.Ytihfapnipifiiaa
/- The walks of slices.Clone of records and of cache.copied. -/
namespace Go.Proofs.Ytihfapnipifiiaa
open Go Go.RowKit Go.Shelf

/-- The cells of records. -/
def rowL (rs : List RRec) : List Value := rs.flatMap RRec.cells
theorem rowL_length (rs : List RRec) : (rowL rs).length = rs.length * 5 := by
  induction rs with
  | nil => rfl
  | cons r rs ih =>
    show (r.cells ++ rowL rs).length = _
    rw [List.length_append, ih, List.length_cons]
    show 5 + rs.length * 5 = _
    omega
theorem rowL_get (rs : List RRec) : ∀ (k : Nat) (u : Value), (rowL rs)[k]? = some u → ∃ r, rs[k / 5]? = some r ∧ r.cells[k % 5]? = some u := by
  induction rs with
  | nil => intro k u h; simp [rowL] at h
  | cons r rs ih =>
    intro k u h
    change (r.cells ++ rowL rs)[k]? = some u at h
    have hl : r.cells.length = 5 := rfl
    by_cases hk : k < 5
    · rw [List.getElem?_append_left (by omega)] at h
      exact ⟨r, by rw [Nat.div_eq_of_lt hk]; rfl, by rw [Nat.mod_eq_of_lt hk]; exact h⟩
    · rw [List.getElem?_append_right (by omega), hl] at h
      obtain ⟨r', h1, h2⟩ := ih _ _ h
      have e1 : k / 5 = (k - 5) / 5 + 1 := by omega
      have e2 : k % 5 = (k - 5) % 5 := by omega
      exact ⟨r', by rw [e1, List.getElem?_cons_succ]; exact h1, by rw [e2]; exact h2⟩
theorem rowL_at (rs : List RRec) : ∀ (i j : Nat) (r : RRec) (u : Value), rs[i]? = some r → r.cells[j]? = some u → (rowL rs)[i * 5 + j]? = some u := by
  induction rs with
  | nil => intro i j r u h; simp at h
  | cons r rs ih =>
    intro i j r' u h hu
    show (r.cells ++ rowL rs)[_]? = some u
    have hl : r.cells.length = 5 := rfl
    have hj : j < 5 := (List.getElem?_eq_some_iff.1 hu).1
    cases i with
    | zero =>
      cases h
      rw [List.getElem?_append_left (by omega)]
      simpa using hu
    | succ i =>
      rw [List.getElem?_append_right (by omega), hl]
      have e1 : (i + 1) * 5 + j - 5 = i * 5 + j := by omega
      rw [e1]
      exact ih i j r' u h hu
theorem rowL_one (rs : List RRec) : ∀ u ∈ rowL rs, u.oneCell' = true := by
  intro u hu
  obtain ⟨r, _, h⟩ := List.mem_flatMap.1 hu
  simp only [RRec.cells, List.mem_cons, List.not_mem_nil, or_false] at h
  rcases h with rfl | rfl | rfl | rfl | rfl <;> rfl

/-- Records in a row of their own. -/
def RecsOwn (W : World) (base : Nat) (v : Value) (rs : List RRec) : Prop := W.ownsRow base 56 5 v rs.length (rowL rs)
theorem RecsOwn.at {W : World} {base : Nat} {v : Value} {rs : List RRec} (h : RecsOwn W base v rs) : RecsAt W v rs := by
  obtain ⟨_, h | ⟨g, cap, cur, hv, hg, hb, hc, hm, hz, ht⟩⟩ := h
  · obtain ⟨rfl, h0⟩ := h
    have : rs = [] := List.eq_nil_of_length_eq_zero h0
    subst this
    exact ⟨none, 0, rfl, Nat.le_refl _, .inl rfl⟩
  · refine ⟨some ⟨g, 0, none⟩, cap, hv, hc, .inr ⟨g, 0, rfl, fun i r hi j u hj => ?_⟩⟩
    have h1 := rowL_at rs i j r u hi hj
    rw [← ht, List.getElem?_take] at h1
    split at h1
    · have h2 : cur[i * 5 + j]? = some u := by simpa using h1
      simp [World.cell?, hb, h2]
    · cases h1
theorem RecsOwn.mono {W : World} {b b' : Nat} {v : Value} {rs : List RRec} (h : RecsOwn W b v rs) (hb : b' ≤ b) : RecsOwn W b' v rs := by
  obtain ⟨h0, h | ⟨g, cap, cur, hv, hg, h⟩⟩ := h
  · exact ⟨h0, .inl h⟩
  · exact ⟨h0, .inr ⟨g, cap, cur, hv, Nat.le_trans hb hg, h⟩⟩
theorem RecsOwn.same {W W' : World} {b : Nat} {v : Value} {rs : List RRec} (h : RecsOwn W b v rs) (e : ∀ k cur, v.ownBlock = some k → W.heap[k]? = some (.cells cur 56 (0, 0)) → W'.heap[k]? = W.heap[k]?) : RecsOwn W' b v rs := by
  obtain ⟨h0, h | ⟨g, cap, cur, rfl, hg, hb, h⟩⟩ := h
  · exact ⟨h0, .inl h⟩
  · exact ⟨h0, .inr ⟨g, cap, cur, rfl, hg, (e g cur rfl hb).trans hb, h⟩⟩

theorem RecsOwn.shape {W : World} {b : Nat} {v : Value} {rs : List RRec} (h : RecsOwn W b v rs) : ∃ A cap, v = .slice A rs.length cap := by
  obtain ⟨h0, ⟨rfl, h⟩ | ⟨g, cap, cur, rfl, h⟩⟩ := h
  · exact ⟨none, 0, by rw [h]⟩
  · exact ⟨_, _, rfl⟩
theorem RecsAt.shape {W : World} {v : Value} {rs : List RRec} (h : RecsAt W v rs) : ∃ A cap, v = .slice A rs.length cap := by
  obtain ⟨A, cap, e, _⟩ := h
  exact ⟨A, cap, e⟩

theorem info_rr : (Try.prog.info? 56).map (fun i => (i.zero, i.size, i.bytes)) = some (some (.agg #[.string ⟨#[]⟩, .int .u16 0, .int .u16 0, .int .u32 0, .string ⟨#[]⟩]), 5, 40) := by kernel_rfl

set_option maxRecDepth 100000 in
theorem clone_any (v : Value) (rs : List RRec) (w : World) (h : RecsAt w v rs) (hl : rs.length ≤ 1048576) :
    Calls Try.prog 94 #[v] w fun e w' => ∃ v', e = .returned v' ∧ RecsOwn w' w.heap.size v' rs ∧ Below w.heap.size w w' := by
  obtain ⟨i0, hi, hz0, hz1, hz2⟩ := info_parts info_rr
  obtain ⟨A, cap, rfl, hcap, hc⟩ := h
  cases A with
  | none =>
    have h0 : rs = [] := by
      rcases hc with h | ⟨b, off, h, _⟩
      · exact h
      · cases h
    subst h0
    have e1 := Lib.run_eql_slice_nil (P := Try.prog) w 23 56 none 0 cap (h := Try.underlying23)
    dsimp only [List.length_nil]
    dsimp only [Option.isNone] at e1
    go_enter Try.func94, Try.ntmps94
    go_wp2
    go_ret
    exact ⟨_, rfl, ⟨rfl, .inl ⟨rfl, rfl⟩⟩, Below.refl _ _⟩
  | some a =>
    have hnews : ∀ j u, (rowL rs)[j]? = some u → w.cell? (a.add j) = some u := by
      intro j u hj
      obtain ⟨r, h1, h2⟩ := rowL_get rs j u hj
      rcases hc with h | ⟨b, off, ha, h⟩
      · rw [h] at h1; simp at h1
      · cases ha
        have := h _ _ h1 _ _ h2
        have e : off + j / 5 * 5 + j % 5 = off + j := by omega
        rw [e] at this
        have ea : (⟨b, off, none⟩ : Addr).add j = ⟨b, off + j, none⟩ := by
          unfold Addr.add
          split
          · next h => subst h; rfl
          · rfl
        rw [ea]
        exact this
    have e1 := Lib.run_eql_slice_nil (P := Try.prog) w 23 56 (some a) rs.length cap (h := Try.underlying23)
    dsimp only [Option.isNone] at e1
    have own0 : (w.alloc (.cells #[] 56)).ownsRow w.heap.size 56 5 (.slice (some ⟨w.heap.size, 0, none⟩) 0 0) 0 [] := ⟨rfl, .inr ⟨w.heap.size, 0, #[], rfl, Nat.le_refl _, heap_alloc_new _ _, Nat.le_refl _, Nat.zero_le _, rfl, rfl⟩⟩
    have b1 : 0 + rs.length ≤ maxLen := by unfold maxLen; omega
    have b2 : (0 + rs.length) * 40 ≤ 140737488355328 := by omega
    have Hnews := Lib.hid hnews
    clear hnews hc
    go_enter Try.func94, Try.ntmps94
    go_wp2_with (at_builtin; refine wpList_append_own_at (P := Try.prog) (w := w.alloc (.cells #[] 56)) rfl _ _ 23 rfl w.heap.size 56 i0 (.agg #[.string ⟨#[]⟩, .int .u16 0, .int .u16 0, .int .u32 0, .string ⟨#[]⟩]) 5 40 Try.underlying23 hi hz0 hz1 hz2 rfl (by decide) _ 0 [] rfl own0 a rs.length cap (rowL rs) rfl (rowL_length rs) ?c1 (rowL_one rs) b1 b2 (by simp) ?_)
    case c1 => intro j u hj; exact (World.cell?_alloc_some _ _ _ (by rw [Hnews.out j u hj]; rfl)).trans (Hnews.out j u hj)
    intro v' w' hown hgrow hnil hlies
    have Hown := Lib.hid hown
    have Hgrow := Lib.hid hgrow
    clear hown hgrow hnil hlies
    go_wp2
    go_ret
    refine ⟨_, rfl, Hown.out, ?_⟩
    have hg := Hgrow.out
    have hs := hg.size
    rw [World.size_alloc] at hs
    exact ⟨hg.os, hg.tape, hg.output, by omega, fun k hk => (hg.block k (by rw [World.size_alloc]; omega) (by simp [Value.ownBlock]; omega)).trans (Below.heap_alloc _ _ _ hk)⟩

set_option maxRecDepth 100000 in
theorem copied_any (e : Ent) (rv : Value) (w : World) (h : RecsAt w rv e.recs) (hl : e.recs.length ≤ 1048576) :
    Calls Try.prog 57 #[e.val rv] w fun r w' => ∃ rv', r = .returned (e.val rv') ∧ RecsOwn w' w.heap.size rv' e.recs ∧ Below w.heap.size w w' := by
  have hb := (Below.refl w.heap.size w).alloc (Nat.le_refl _) (.cells #[.int .i64 e.kind, .string (bs e.name), .int .u16 e.t, .int .u16 e.c, rv, .int .i64 e.til, .int .i64 e.rank, .int .i64 e.epoch, .int .i64 e.source] 25)
  unfold Ent.val
  go_enter Try.func57, Try.ntmps57
  go_wp2_with fail
  refine (clone_any rv e.recs _ ((h.below ((Below.refl _ w).alloc (Nat.le_refl _) _)).below ((Below.refl _ _).alloc (Nat.le_refl _) _)) hl).mono ?_
  rintro r w2 ⟨rv', rfl, hown, h2⟩
  have hz2 := h2.size
  rw [World.size_alloc, World.size_alloc] at hz2
  have hne : w.heap.size ≠ w.heap.size + 1 := by omega
  have r0 : w2.cell? ⟨w.heap.size, 0, none⟩ = some (.int .i64 e.kind) := (h2.cell (by simp; omega)).trans (by go_simp)
  have r1 : w2.cell? ⟨w.heap.size, 1, none⟩ = some (.string (bs e.name)) := (h2.cell (by simp; omega)).trans (by go_simp)
  have r2 : w2.cell? ⟨w.heap.size, 2, none⟩ = some (.int .u16 e.t) := (h2.cell (by simp; omega)).trans (by go_simp)
  have r3 : w2.cell? ⟨w.heap.size, 3, none⟩ = some (.int .u16 e.c) := (h2.cell (by simp; omega)).trans (by go_simp)
  have r4 : w2.cell? ⟨w.heap.size, 4, none⟩ = some (rv) := (h2.cell (by simp; omega)).trans (by go_simp)
  have r5 : w2.cell? ⟨w.heap.size, 5, none⟩ = some (.int .i64 e.til) := (h2.cell (by simp; omega)).trans (by go_simp)
  have r6 : w2.cell? ⟨w.heap.size, 6, none⟩ = some (.int .i64 e.rank) := (h2.cell (by simp; omega)).trans (by go_simp)
  have r7 : w2.cell? ⟨w.heap.size, 7, none⟩ = some (.int .i64 e.epoch) := (h2.cell (by simp; omega)).trans (by go_simp)
  have r8 : w2.cell? ⟨w.heap.size, 8, none⟩ = some (.int .i64 e.source) := (h2.cell (by simp; omega)).trans (by go_simp)
  have z0 : w2.cell? ⟨w.heap.size + 1, 0, none⟩ = some (.int .i64 0) := (h2.cell (by simp)).trans (by go_simp)
  have z1 : w2.cell? ⟨w.heap.size + 1, 1, none⟩ = some (.string ⟨#[]⟩) := (h2.cell (by simp)).trans (by go_simp)
  have z2 : w2.cell? ⟨w.heap.size + 1, 2, none⟩ = some (.int .u16 0) := (h2.cell (by simp)).trans (by go_simp)
  have z3 : w2.cell? ⟨w.heap.size + 1, 3, none⟩ = some (.int .u16 0) := (h2.cell (by simp)).trans (by go_simp)
  have z4 : w2.cell? ⟨w.heap.size + 1, 4, none⟩ = some (.slice none 0 0) := (h2.cell (by simp)).trans (by go_simp)
  have z5 : w2.cell? ⟨w.heap.size + 1, 5, none⟩ = some (.int .i64 0) := (h2.cell (by simp)).trans (by go_simp)
  have z6 : w2.cell? ⟨w.heap.size + 1, 6, none⟩ = some (.int .i64 0) := (h2.cell (by simp)).trans (by go_simp)
  have z7 : w2.cell? ⟨w.heap.size + 1, 7, none⟩ = some (.int .i64 0) := (h2.cell (by simp)).trans (by go_simp)
  have z8 : w2.cell? ⟨w.heap.size + 1, 8, none⟩ = some (.int .i64 0) := (h2.cell (by simp)).trans (by go_simp)
  have f0 : w2.frozen? ⟨w.heap.size, 4, none⟩ = false := (h2.frozen (by simp; omega)).trans (by go_simp)
  have f1 : w2.frozen? ⟨w.heap.size + 1, 0, none⟩ = false := (h2.frozen (by simp)).trans (by go_simp)
  have f2 : w2.frozen? ⟨w.heap.size + 1, 1, none⟩ = false := (h2.frozen (by simp)).trans (by go_simp)
  have f3 : w2.frozen? ⟨w.heap.size + 1, 2, none⟩ = false := (h2.frozen (by simp)).trans (by go_simp)
  have f4 : w2.frozen? ⟨w.heap.size + 1, 3, none⟩ = false := (h2.frozen (by simp)).trans (by go_simp)
  have f5 : w2.frozen? ⟨w.heap.size + 1, 4, none⟩ = false := (h2.frozen (by simp)).trans (by go_simp)
  have f6 : w2.frozen? ⟨w.heap.size + 1, 5, none⟩ = false := (h2.frozen (by simp)).trans (by go_simp)
  have f7 : w2.frozen? ⟨w.heap.size + 1, 6, none⟩ = false := (h2.frozen (by simp)).trans (by go_simp)
  have f8 : w2.frozen? ⟨w.heap.size + 1, 7, none⟩ = false := (h2.frozen (by simp)).trans (by go_simp)
  have f9 : w2.frozen? ⟨w.heap.size + 1, 8, none⟩ = false := (h2.frozen (by simp)).trans (by go_simp)
  obtain ⟨A, cap, rfl⟩ : ∃ A cap, rv' = .slice A e.recs.length cap := hown.shape
  obtain ⟨A0, cap0, rfl⟩ : ∃ A cap, rv = .slice A e.recs.length cap := h.shape
  have Hown := Lib.hid hown
  have H2 := Lib.hid h2
  clear hown h2
  go_wp2_with fail
  have fin : ∀ W : World, W = ((((((((((w2.setCell ⟨w.heap.size, 4, none⟩ (.slice A e.recs.length cap)).setCell ⟨w.heap.size + 1, 0, none⟩ (.int .i64 e.kind)).setCell ⟨w.heap.size + 1, 1, none⟩ (.string (bs e.name))).setCell
      ⟨w.heap.size + 1, 2, none⟩ (.int .u16 e.t)).setCell ⟨w.heap.size + 1, 3, none⟩ (.int .u16 e.c)).setCell ⟨w.heap.size + 1, 4, none⟩ (.slice A e.recs.length cap)).setCell ⟨w.heap.size + 1, 5, none⟩ (.int .i64 e.til)).setCell
      ⟨w.heap.size + 1, 6, none⟩ (.int .i64 e.rank)).setCell ⟨w.heap.size + 1, 7, none⟩ (.int .i64 e.epoch)).setCell ⟨w.heap.size + 1, 8, none⟩ (.int .i64 e.source)) → RecsOwn W w.heap.size (.slice A e.recs.length cap) e.recs ∧ Below w.heap.size w W := by
    intro W hW
    have m : ModS (fun k => k = w.heap.size ∨ k = w.heap.size + 1) w2 W := by
      rw [hW]
      exact ((((((((((ModS.refl _ w2).set (.inl rfl) _).set (.inr rfl) _).set (.inr rfl) _).set (.inr rfl) _).set (.inr rfl) _).set (.inr rfl) _).set (.inr rfl) _).set (.inr rfl) _).set (.inr rfl) _).set (.inr rfl) _
    have hb2 : Below w.heap.size w w2 := ((hb.alloc (by simp) _).trans (H2.out.mono (by simp; omega)))
    refine ⟨(Hown.out.same ?_).mono (by simp; omega), ModS.below_of hb2 m (by omega) (by intro k hk; omega)⟩
    intro k cur hk hc
    have hg : (w.heap.size + 2) ≤ k := by have := (own_cells Hown.out k hk).1; simp at this; omega
    exact m.block k (Array.getElem?_eq_some_iff.1 hc).1 (by omega)
  exact bodyPost_ret (v := .agg #[.int .i64 e.kind, .string (bs e.name), .int .u16 e.t, .int .u16 e.c, .slice A e.recs.length cap, .int .i64 e.til, .int .i64 e.rank, .int .i64 e.epoch, .int .i64 e.source]) (by simp [results, Try.results57, go_sem, z0, z1, z2, z3, z4, z5, z6, z7, z8]) rfl ⟨_, rfl, fin _ rfl⟩
end Go.Proofs.Ytihfapnipifiiaa
/- Plain laws of a heap: what 'up', 'down' and 'Remove' make of a row keeps the heap's order. -/
namespace Go.Proofs.Ytihfapnipifiiaa
open Go Go.RowKit Go.Shelf

theorem swapL_get {its : List It} {i j : Nat} (hi : i < its.length) (hj : j < its.length) (hij : i ≠ j) (k : Nat) :
    (swapL its i j)[k]? = if k = i then its[j]? else if k = j then its[i]? else its[k]? := by
  obtain ⟨x, hx⟩ := get_of_lt hi
  obtain ⟨y, hy⟩ := get_of_lt hj
  rw [swapL_eq hx hy]
  by_cases h1 : k = i
  · subst h1
    rw [if_pos rfl, List.getElem?_set_ne (fun e => hij e.symm), List.getElem?_set_self hi, hy]
  · rw [if_neg h1]
    by_cases h2 : k = j
    · subst h2
      rw [if_pos rfl, List.getElem?_set_self (by rw [List.length_set]; exact hj), hx]
    · rw [if_neg h2, List.getElem?_set_ne (fun e => h2 e.symm), List.getElem?_set_ne (fun e => h1 e.symm)]
theorem swapL_until {its : List It} {i j : Nat} (hi : i < its.length) (hj : j < its.length) (hij : i ≠ j) (k : Nat) :
    untilAt (swapL its i j) k = if k = i then untilAt its j else if k = j then untilAt its i else untilAt its k := by
  unfold untilAt
  rw [swapL_get hi hj hij k]
  split
  · rfl
  · split <;> rfl

/-- The first n of a row are a heap. -/
def HeapN (its : List It) (n : Nat) : Prop := ∀ k, 0 < k → k < n → untilAt its ((k - 1) / 2) ≤ untilAt its k
/-- .. but one may be too small. -/
def UpInv (its : List It) (n j : Nat) : Prop :=
  (∀ k, 0 < k → k < n → k ≠ j → untilAt its ((k - 1) / 2) ≤ untilAt its k) ∧ (∀ k, 0 < k → k < n → (k - 1) / 2 = j → 0 < j → untilAt its ((j - 1) / 2) ≤ untilAt its k)
theorem upL_far : ∀ (j : Nat) (its : List It) (k : Nat), j < its.length → j < k → (upL its j)[k]? = its[k]? := by
  intro j
  induction j using Nat.strongRecOn with
  | _ j ih =>
    intro its k hj hk
    by_cases h0 : j = 0
    · subst h0; rw [upL_zero]
    by_cases h : untilAt its j < untilAt its ((j - 1) / 2)
    · rw [upL_go h0 h, ih _ (by omega) _ _ (by rw [swapL_length]; omega) (by omega), swapL_get (by omega) hj (by omega), if_neg (by omega), if_neg (by omega)]
    · rw [upL_stop h]
theorem upL_heap : ∀ (j : Nat) (its : List It) (n : Nat), j < n → n ≤ its.length → UpInv its n j → HeapN (upL its j) n := by
  intro j
  induction j using Nat.strongRecOn with
  | _ j ih =>
    intro its n hj hn h
    by_cases h0 : j = 0
    · subst h0; rw [upL_zero]
      intro k k0 k1; exact h.1 k k0 k1 (by omega)
    by_cases hu : untilAt its j < untilAt its ((j - 1) / 2)
    · rw [upL_go h0 hu]
      refine ih _ (by omega) _ n (by omega) (by rw [swapL_length]; exact hn) ⟨?_, ?_⟩
      · intro k k0 k1 kp
        rw [swapL_until (by omega) (by omega) (by omega), swapL_until (by omega) (by omega) (by omega), if_neg kp]
        by_cases e1 : (k - 1) / 2 = (j - 1) / 2
        · rw [if_pos e1]
          by_cases e2 : k = j
          · rw [if_pos e2]; omega
          · rw [if_neg e2]
            have := h.1 k k0 k1 e2
            rw [e1] at this; omega
        · rw [if_neg e1]
          by_cases e3 : (k - 1) / 2 = j
          · rw [if_pos e3, if_neg (by omega)]
            exact h.2 k k0 k1 e3 (by omega)
          · rw [if_neg e3]
            by_cases e2 : k = j
            · subst e2; exact absurd rfl e1
            · rw [if_neg e2]; exact h.1 k k0 k1 e2
      · intro k k0 k1 kp p0
        have hpp := h.1 ((j - 1) / 2) p0 (by omega) (by omega)
        rw [swapL_until (by omega) (by omega) (by omega), swapL_until (by omega) (by omega) (by omega), if_neg (by omega), if_neg (by omega), if_neg (by omega)]
        by_cases e2 : k = j
        · rw [if_pos e2]; exact hpp
        · rw [if_neg e2]
          have := h.1 k k0 k1 e2
          rw [kp] at this
          omega
    · rw [upL_stop hu]
      intro k k0 k1
      by_cases e : k = j
      · subst e; omega
      · exact h.1 k k0 k1 e

/-- .. but one may be too small or too great. -/
def DInv (its : List It) (n i : Nat) : Prop :=
  (∀ k, 0 < k → k < n → (k - 1) / 2 ≠ i → k ≠ i → untilAt its ((k - 1) / 2) ≤ untilAt its k) ∧ (∀ k, 0 < k → k < n → (k - 1) / 2 = i → 0 < i → untilAt its ((i - 1) / 2) ≤ untilAt its k)
theorem childL_lt {its : List It} {i n : Nat} (h : ¬ n ≤ 2 * i + 1) : childL its i n < n := by unfold childL; split <;> omega
theorem childL_or (its : List It) (i n : Nat) : childL its i n = 2 * i + 1 ∨ childL its i n = 2 * i + 2 := by unfold childL; split <;> simp
theorem childL_le {its : List It} {i n : Nat} (k : Nat) (k0 : 0 < k) (k1 : k < n) (kp : (k - 1) / 2 = i) : untilAt its (childL its i n) ≤ untilAt its k := by
  rcases (show k = 2 * i + 1 ∨ k = 2 * i + 2 by omega) with rfl | rfl
  · unfold childL; split
    · next h => omega
    · exact Int.le_refl _
  · unfold childL; split
    · exact Int.le_refl _
    · next h => 
      have : ¬ untilAt its (2 * i + 2) < untilAt its (2 * i + 1) := fun e => h ⟨k1, e⟩
      omega
theorem downL_far : ∀ (d i n : Nat) (its : List It) (k : Nat), n - i = d → n ≤ its.length → i < n → n ≤ k → (downL its i n).1[k]? = its[k]? := by
  intro d
  induction d using Nat.strongRecOn with
  | _ d ih =>
    intro i n its k hd hn hi hk
    by_cases h : n ≤ 2 * i + 1
    · rw [downL_end h]
    by_cases hu : untilAt its (childL its i n) < untilAt its i
    · have hc := childL_lt (its := its) h
      have hg := childL_gt its i n
      rw [downL_go h hu, ih (n - childL its i n) (by omega) _ _ _ _ rfl (by rw [swapL_length]; exact hn) hc hk, swapL_get (by omega) (by omega) (by omega), if_neg (by omega), if_neg (by omega)]
    · rw [downL_stop hu]
theorem downL_le : ∀ (d i n : Nat) (its : List It), n - i = d → i < n → i ≤ (downL its i n).2 ∧ (downL its i n).2 < n := by
  intro d
  induction d using Nat.strongRecOn with
  | _ d ih =>
    intro i n its hd hi
    by_cases h : n ≤ 2 * i + 1
    · rw [downL_end h]; exact ⟨Nat.le_refl _, hi⟩
    by_cases hu : untilAt its (childL its i n) < untilAt its i
    · have hc := childL_lt (its := its) h
      have hg := childL_gt its i n
      rw [downL_go h hu]
      have := ih (n - childL its i n) (by omega) (childL its i n) n (swapL its i (childL its i n)) rfl hc
      omega
    · rw [downL_stop hu]; exact ⟨Nat.le_refl _, hi⟩
/-- Where the one is not too small, all is well behind 'down'. -/
theorem downL_heap : ∀ (d i n : Nat) (its : List It), n - i = d → n ≤ its.length → i < n → DInv its n i → (0 < i → untilAt its ((i - 1) / 2) ≤ untilAt its i) → HeapN (downL its i n).1 n := by
  intro d
  induction d using Nat.strongRecOn with
  | _ d ih =>
    intro i n its hd hn hi h hp
    have all : (∀ k, 0 < k → k < n → (k - 1) / 2 = i → untilAt its i ≤ untilAt its k) → HeapN its n := by
      intro hc k k0 k1
      by_cases e : (k - 1) / 2 = i
      · rw [e]; exact hc k k0 k1 e
      · by_cases e2 : k = i
        · subst e2; exact hp k0
        · exact h.1 k k0 k1 e e2
    by_cases hb : n ≤ 2 * i + 1
    · rw [downL_end hb]
      exact all (fun k k0 k1 kp => by omega)
    by_cases hu : untilAt its (childL its i n) < untilAt its i
    · have hc := childL_lt (its := its) hb
      have hg := childL_gt its i n
      have ho := childL_or its i n
      have hle := fun k k0 k1 kp => childL_le (its := its) (i := i) (n := n) k k0 k1 kp
      rw [downL_go hb hu]
      generalize childL its i n = c at *
      refine ih (n - c) (by omega) c n _ rfl (by rw [swapL_length]; exact hn) hc ⟨?_, ?_⟩ ?_
      · intro k k0 k1 kp kc
        rw [swapL_until (by omega) (by omega) (by omega), swapL_until (by omega) (by omega) (by omega), if_neg kp, if_neg kc]
        by_cases e1 : (k - 1) / 2 = i
        · rw [if_pos e1, if_neg (by omega)]
          exact hle k k0 k1 e1
        · rw [if_neg e1]
          by_cases e2 : k = i
          · rw [if_pos e2]; subst e2
            exact h.2 c (by omega) hc (by omega) k0
          · rw [if_neg e2]; exact h.1 k k0 k1 e1 e2
      · intro k k0 k1 kp c0
        have ec : (c - 1) / 2 = i := by omega
        rw [swapL_until (by omega) (by omega) (by omega), swapL_until (by omega) (by omega) (by omega), if_pos ec, if_neg (by omega), if_neg (by omega)]
        have := h.1 k k0 k1 (by omega) (by omega)
        rw [kp] at this; exact this
      · intro c0
        have ec : (c - 1) / 2 = i := by omega
        rw [swapL_until (by omega) (by omega) (by omega), swapL_until (by omega) (by omega) (by omega), if_pos ec, if_neg (by omega), if_pos rfl]
        omega
    · rw [downL_stop hu]
      refine all (fun k k0 k1 kp => ?_)
      have := childL_le (its := its) k k0 k1 kp
      omega
/-- Where it went down, all is well. -/
theorem downL_moved {i n : Nat} {its : List It} (hn : n ≤ its.length) (hi : i < n) (h : DInv its n i) (hm : i < (downL its i n).2) : HeapN (downL its i n).1 n := by
  by_cases hb : n ≤ 2 * i + 1
  · rw [downL_end hb] at hm; exact absurd hm (Nat.lt_irrefl _)
  by_cases hu : untilAt its (childL its i n) < untilAt its i
  · have hc := childL_lt (its := its) hb
    have hg := childL_gt its i n
    have ho := childL_or its i n
    have hle := fun k k0 k1 kp => childL_le (its := its) (i := i) (n := n) k k0 k1 kp
    rw [downL_go hb hu]
    clear hm
    generalize childL its i n = c at *
    refine downL_heap _ c n _ rfl (by rw [swapL_length]; exact hn) hc ⟨?_, ?_⟩ ?_
    · intro k k0 k1 kp kc
      rw [swapL_until (by omega) (by omega) (by omega), swapL_until (by omega) (by omega) (by omega), if_neg kp, if_neg kc]
      by_cases e1 : (k - 1) / 2 = i
      · rw [if_pos e1, if_neg (by omega)]
        exact hle k k0 k1 e1
      · rw [if_neg e1]
        by_cases e2 : k = i
        · rw [if_pos e2]; subst e2
          exact h.2 c (by omega) hc (by omega) k0
        · rw [if_neg e2]; exact h.1 k k0 k1 e1 e2
    · intro k k0 k1 kp c0
      have ec : (c - 1) / 2 = i := by omega
      rw [swapL_until (by omega) (by omega) (by omega), swapL_until (by omega) (by omega) (by omega), if_pos ec, if_neg (by omega), if_neg (by omega)]
      have := h.1 k k0 k1 (by omega) (by omega)
      rw [kp] at this; exact this
    · intro c0
      have ec : (c - 1) / 2 = i := by omega
      rw [swapL_until (by omega) (by omega) (by omega), swapL_until (by omega) (by omega) (by omega), if_pos ec, if_neg (by omega), if_pos rfl]
      omega
  · rw [downL_stop hu] at hm; exact absurd hm (Nat.lt_irrefl _)
theorem downL_still {i n : Nat} {its : List It} (hi : i < n) (hm : ¬ i < (downL its i n).2) : (downL its i n).1 = its ∧ ∀ k, 0 < k → k < n → (k - 1) / 2 = i → untilAt its i ≤ untilAt its k := by
  by_cases hb : n ≤ 2 * i + 1
  · rw [downL_end hb]; exact ⟨rfl, fun k k0 k1 kp => by omega⟩
  by_cases hu : untilAt its (childL its i n) < untilAt its i
  · have hc := childL_lt (its := its) hb
    have hg := childL_gt its i n
    rw [downL_go hb hu] at hm
    have := downL_le _ (childL its i n) n (swapL its i (childL its i n)) rfl hc
    omega
  · rw [downL_stop hu]
    exact ⟨rfl, fun k k0 k1 kp => by have := childL_le (its := its) k k0 k1 kp; omega⟩

/-- What a push makes. -/
theorem push_heap {its : List It} (x : It) (h : HeapN its its.length) : HeapN (upL (its ++ [x]) its.length) (its.length + 1) := by
  have far : ∀ k, k < its.length → untilAt (its ++ [x]) k = untilAt its k := by
    intro k hk; unfold untilAt; rw [List.getElem?_append_left hk]
  refine upL_heap _ _ _ (by omega) (by simp) ⟨?_, ?_⟩
  · intro k k0 k1 kn
    rw [far k (by omega), far _ (by omega)]
    exact h k k0 (by omega)
  · intro k k0 k1 kp; omega
/-- What a removal makes. -/
theorem rem_heap {its : List It} {i : Nat} {x : It} (hx : its[i]? = some x) (h : HeapN its its.length) : ∃ l, remL its i = l ++ [x] ∧ HeapN l l.length := by
  have hi : i < its.length := (List.getElem?_eq_some_iff.1 hx).1
  have hlen : (remL its i).length = its.length := (remL_perm its i).length_eq
  have key : (remL its i)[its.length - 1]? = some x ∧ HeapN (remL its i) (its.length - 1) := by
    unfold remL
    by_cases e : i = its.length - 1
    · rw [if_pos e]
      exact ⟨by rw [← e]; exact hx, fun k k0 k1 => h k k0 (by omega)⟩
    · rw [if_neg e]
      have hs : i < its.length - 1 := by omega
      have hsl : (swapL its i (its.length - 1)).length = its.length := swapL_length _ _ _
      have hst : ∀ k, untilAt (swapL its i (its.length - 1)) k = if k = i then untilAt its (its.length - 1) else if k = its.length - 1 then untilAt its i else untilAt its k := fun k => swapL_until hi (by omega) (by omega) k
      have hlast : (swapL its i (its.length - 1))[its.length - 1]? = some x := by
        rw [swapL_get hi (by omega) (by omega), if_neg (by omega), if_pos rfl, hx]
      have hd : DInv (swapL its i (its.length - 1)) (its.length - 1) i := by
        refine ⟨?_, ?_⟩
        · intro k k0 k1 kp ki
          rw [hst, hst, if_neg kp, if_neg (by omega), if_neg ki, if_neg (by omega)]
          exact h k k0 (by omega)
        · intro k k0 k1 kp i0
          rw [hst, hst, if_neg (by omega), if_neg (by omega), if_neg (by omega), if_neg (by omega)]
          have h1 := h i i0 (by omega)
          have h2 := h k k0 (by omega)
          rw [kp] at h2; omega
      by_cases hm : i < (downL (swapL its i (its.length - 1)) i (its.length - 1)).2
      · rw [if_pos hm]
        refine ⟨?_, downL_moved (by omega) hs hd hm⟩
        rw [downL_far _ i _ _ _ rfl (by omega) hs (Nat.le_refl _), hlast]
      · rw [if_neg hm]
        obtain ⟨e1, e2⟩ := downL_still hs hm
        rw [e1]
        refine ⟨?_, upL_heap _ _ _ hs (by omega) ⟨?_, hd.2⟩⟩
        · rw [upL_far _ _ _ (by omega) hs, hlast]
        · intro k k0 k1 kj
          by_cases e3 : (k - 1) / 2 = i
          · rw [e3]; exact e2 k k0 k1 e3
          · exact hd.1 k k0 k1 e3 kj
  obtain ⟨k1, k2⟩ := key
  refine ⟨(remL its i).dropLast, ?_, ?_⟩
  · have hne : remL its i ≠ [] := by intro e; rw [e] at hlen; simp at hlen; omega
    have := (List.dropLast_concat_getLast hne).symm
    rw [List.getLast_eq_getElem hne] at this
    have h3 : (remL its i)[(remL its i).length - 1]'(by omega) = x := by
      have h4 := List.getElem?_eq_getElem (l := remL its i) (i := its.length - 1) (by omega)
      rw [k1] at h4
      have h5 := (Option.some.inj h4).symm
      simpa [hlen] using h5
    rw [h3] at this
    exact this
  · intro k k0 k1
    rw [List.length_dropLast] at k1
    have e : ∀ j, j < (remL its i).length - 1 → untilAt (remL its i).dropLast j = untilAt (remL its i) j := by
      intro j hj; unfold untilAt; rw [List.getElem?_dropLast, if_pos hj]
    rw [e _ (by omega), e _ (by omega)]
    exact k2 k k0 (by omega)
/-- The first of a heap is the least. -/
theorem heap_least {its : List It} {n : Nat} (h : HeapN its n) : ∀ k, k < n → untilAt its 0 ≤ untilAt its k := by
  intro k
  induction k using Nat.strongRecOn with
  | _ k ih =>
    intro hk
    by_cases h0 : k = 0
    · subst h0; exact Int.le_refl _
    · exact Int.le_trans (ih ((k - 1) / 2) (by omega) (by omega)) (h k (by omega) hk)
end Go.Proofs.Ytihfapnipifiiaa
