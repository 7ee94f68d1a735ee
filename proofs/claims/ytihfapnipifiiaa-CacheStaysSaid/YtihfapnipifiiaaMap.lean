/- The cache's map: its entries, one for each item. -/
import Derived.Test.YtihfapnipifiiaaItem
import Derived.MapKept
namespace Go.Proofs.Ytihfapnipifiiaa
open Go Go.RowKit Go.Shelf Go.MapKept

def It.ent2 (x : It) : Value × Value := (.string (bs x.ent.key), x.ptr)
/-- The map of a cache: an entry for each item. -/
def MapRow (W : World) (mb : Nat) (its : List It) : Prop :=
  ∃ es clk, W.heap[mb]? = some (.map es clk) ∧ Stamped es clk ∧ (es.toList.map fun x => (x.key, x.val)).Perm (its.map It.ent2)

theorem MapRow.keys {its : List It} {es : Array MapEntry} (hp : (es.toList.map fun x => (x.key, x.val)).Perm (its.map It.ent2)) : ∀ x ∈ es.toList, IsKey .string x.key := by
  intro x hx
  have := hp.mem_iff.1 (List.mem_map.2 ⟨x, hx, rfl⟩)
  obtain ⟨y, _, e⟩ := List.mem_map.1 this
  have e1 : x.key = .string (bs y.ent.key) := (congrArg Prod.fst e).symm
  rw [e1]; trivial
theorem MapRow.entry {its : List It} {es : Array MapEntry} (hp : (es.toList.map fun x => (x.key, x.val)).Perm (its.map It.ent2)) {x : It} (hx : x ∈ its) : ∃ e ∈ es.toList, e.key = .string (bs x.ent.key) ∧ e.val = x.ptr := by
  have := hp.mem_iff.2 (List.mem_map.2 ⟨x, hx, rfl⟩)
  obtain ⟨e, he, h⟩ := List.mem_map.1 this
  exact ⟨e, he, congrArg Prod.fst h, congrArg Prod.snd h⟩
theorem MapRow.item {its : List It} {es : Array MapEntry} (hp : (es.toList.map fun x => (x.key, x.val)).Perm (its.map It.ent2)) {e : MapEntry} (he : e ∈ es.toList) : ∃ x ∈ its, e.key = .string (bs x.ent.key) ∧ e.val = x.ptr := by
  have := hp.mem_iff.1 (List.mem_map.2 ⟨e, he, rfl⟩)
  obtain ⟨x, hx, h⟩ := List.mem_map.1 this
  exact ⟨x, hx, (congrArg Prod.fst h).symm, (congrArg Prod.snd h).symm⟩
theorem MapRow.nodup {W : World} {mb : Nat} {its : List It} (h : MapRow W mb its) : (its.map fun x => x.ent.key).Nodup := by
  obtain ⟨es, clk, hb, hs, hp⟩ := h
  have h1 : (es.toList.map (·.key)).Perm (its.map fun x => (Value.string (bs x.ent.key))) := by
    have := hp.map Prod.fst
    simpa [List.map_map, Function.comp_def, It.ent2] using this
  have h2 := h1.nodup_iff.1 hs.2.2
  have h3 : (its.map fun x => (Value.string (bs x.ent.key))) = (its.map fun x => x.ent.key).map fun k => Value.string (bs k) := by rw [List.map_map]; rfl
  rw [h3] at h2
  exact (List.pairwise_map.1 h2).imp (fun h e => h (congrArg (fun k => Value.string (bs k)) e))
theorem MapRow.perm {W : World} {mb : Nat} {its jts : List It} (h : MapRow W mb its) (hp : its.Perm jts) : MapRow W mb jts := by
  obtain ⟨es, clk, hb, hs, h⟩ := h
  exact ⟨es, clk, hb, hs, h.trans (hp.map _)⟩
theorem MapRow.same {W W' : World} {mb : Nat} {its : List It} (h : MapRow W mb its) (e : W'.heap[mb]? = W.heap[mb]?) : MapRow W' mb its := by
  obtain ⟨es, clk, hb, hs, h⟩ := h
  exact ⟨es, clk, e.trans hb, hs, h⟩
/-- Items that have the same keys and blocks. -/
theorem MapRow.alike {W : World} {mb : Nat} {its jts : List It} (h : MapRow W mb its) (e : its.map It.ent2 = jts.map It.ent2) : MapRow W mb jts := by
  obtain ⟨es, clk, hb, hs, h⟩ := h
  exact ⟨es, clk, hb, hs, by rw [← e]; exact h⟩

def mapT : TypeId := 87
theorem mapT_u : Try.prog.underlying 87 = some (.map 9 100) := Try.underlying87
theorem zero_ptr (W : World) : (zeroValue 100).run Try.prog W = .ok (.pointer none) W := by
  have h0 : (Try.prog.info? 100).map (fun i => i.zero) = some (some (.pointer none)) := by kernel_rfl
  cases hi : Try.prog.info? 100 with
  | none => rw [hi] at h0; cases h0
  | some i =>
    rw [hi] at h0
    have hz : i.zero = some (.pointer none) := Option.some.inj h0
    simp [zeroValue, typeInfo, Result.andThen, hi, hz]

theorem look_hit {W : World} {mb : Nat} {its : List It} (h : MapRow W mb its) {x : It} (hx : x ∈ its) :
    (Instr.lookup 87 (.map (some mb)) (.string (bs x.ent.key)) true).run Try.prog W = .ok (.tuple #[x.ptr, .bool true]) W := by
  have hnd := h.nodup
  obtain ⟨es, clk, hb, hs, hp⟩ := h
  obtain ⟨e, he, hk, hv⟩ := MapRow.entry hp hx
  rcases findNow_spec (d := .string) (k := .string (bs x.ent.key)) trivial es.toList 0 (MapRow.keys hp) with ⟨h1, h2⟩ | ⟨j, e', h1, h2, h3⟩
  · exact absurd hk (h2 e he)
  · have he' := List.mem_of_getElem? h2
    have hee : e' = e := by
      have := hs.2.2
      obtain ⟨i1, hi1, g1⟩ := List.getElem_of_mem he'
      obtain ⟨i2, hi2, g2⟩ := List.getElem_of_mem he
      have h4 : (es.toList.map (·.key))[i1]'(by simpa using hi1) = (es.toList.map (·.key))[i2]'(by simpa using hi2) := by
        rw [List.getElem_map, List.getElem_map, g1, g2, h3, hk]
      have h5 := (List.getElem_inj this).1 h4
      subst h5
      rw [← g1, g2]
    rw [hee, hv] at h1
    simp [Instr.lookup, run_underlying mapT_u, MapKept.run_getObj_map hb, run_checkKey Try.underlying9 (k := .string (bs x.ent.key)) trivial, run_findKey Try.underlying9 h1, Result.andThen]
theorem look_miss {W : World} {mb : Nat} {its : List It} (h : MapRow W mb its) {k : List UInt8} (hx : ∀ x ∈ its, x.ent.key ≠ k) :
    (Instr.lookup 87 (.map (some mb)) (.string (bs k)) true).run Try.prog W = .ok (.tuple #[.pointer none, .bool false]) W := by
  obtain ⟨es, clk, hb, hs, hp⟩ := h
  rcases findNow_spec (d := .string) (k := .string (bs k)) trivial es.toList 0 (MapRow.keys hp) with ⟨h1, h2⟩ | ⟨j, e', h1, h2, h3⟩
  · simp [Instr.lookup, run_underlying mapT_u, MapKept.run_getObj_map hb, run_checkKey Try.underlying9 (k := .string (bs k)) trivial, run_findKey Try.underlying9 h1, Result.andThen, zero_ptr]
  · obtain ⟨y, hy, hk, _⟩ := MapRow.item hp (List.mem_of_getElem? h2)
    rw [hk] at h3
    exact absurd (bs_inj (by injection h3)) (hx y hy)
theorem look_nil (k : ByteArray) (W : World) :
    (Instr.lookup 87 (.map none) (.string k) true).run Try.prog W = .ok (.tuple #[.pointer none, .bool false]) W := by
  have h1 : Instr.findNow .string (.string k) [] 0 = some none := rfl
  simp [Instr.lookup, run_underlying mapT_u, run_checkKey Try.underlying9 (k := .string k) trivial, run_findKey Try.underlying9 h1, Result.andThen, zero_ptr]

/-- A world in which a block has turned. -/
def putObj (W : World) (b : Nat) (o : Obj) : World := { W with heap := W.heap.setIfInBounds b o }
theorem putObj_size (W : World) (b : Nat) (o : Obj) : (putObj W b o).heap.size = W.heap.size := by simp [putObj]
theorem putObj_at {W : World} {b : Nat} {o o' : Obj} (h : W.heap[b]? = some o) : (putObj W b o').heap[b]? = some o' := (heap_set h).1
theorem putObj_far {W : World} {b : Nat} {o o' : Obj} (h : W.heap[b]? = some o) (k : Nat) (hk : k ≠ b) : (putObj W b o').heap[k]? = W.heap[k]? := (heap_set h).2 k hk
theorem ModS.putObj {S : Nat → Prop} {w W : World} (h : ModS S w W) (b : Nat) (o : Obj) (hb : S b) : ModS S w (putObj W b o) :=
  h.trans ⟨rfl, rfl, rfl, by simp [Proofs.Ytihfapnipifiiaa.putObj], fun k _ hn => by
    have : b ≠ k := fun e => hn (e ▸ hb)
    simp [Proofs.Ytihfapnipifiiaa.putObj, this]⟩

/-- A new entry. -/
theorem map_new {W : World} {mb : Nat} {its : List It} (h : MapRow W mb its) (x : It) (hx : ∀ y ∈ its, y.ent.key ≠ x.ent.key) :
    ∃ o, (Instr.mapUpdate 87 (.map (some mb)) (.string (bs x.ent.key)) x.ptr).run Try.prog W = .ok () (putObj W mb o) ∧ MapRow (putObj W mb o) mb (its ++ [x]) := by
  obtain ⟨es, clk, hb, hs, hp⟩ := h
  rcases findNow_spec (d := .string) (k := .string (bs x.ent.key)) trivial es.toList 0 (MapRow.keys hp) with ⟨h1, h2⟩ | ⟨j, e', h1, h2, h3⟩
  · refine ⟨.map (es.push { key := .string (bs x.ent.key), val := x.ptr, born := clk }) (clk + 1), ?_, _, _, putObj_at hb, stamped_push hs h2, ?_⟩
    · simp [Instr.mapUpdate, run_underlying mapT_u, MapKept.run_getObj_map hb, run_checkKey Try.underlying9 (k := .string (bs x.ent.key)) trivial, run_findKey Try.underlying9 h1, run_setObj_map _ hb, Result.andThen, putObj]
    · rw [Array.toList_push, List.map_append, List.map_append]
      exact hp.append_right _
  · obtain ⟨y, hy, hk, _⟩ := MapRow.item hp (List.mem_of_getElem? h2)
    rw [hk] at h3
    exact absurd (bs_inj (by injection h3)) (hx y hy)

/-- An entry goes. -/
theorem map_del {W : World} {mb : Nat} {its : List It} {x : It} (h : MapRow W mb (x :: its)) :
    ∃ o, (Builtin.delete_ #[87, 9] 0 #[.map (some mb), .string (bs x.ent.key)]).run Try.prog W = .ok (.tuple #[]) (putObj W mb o) ∧ MapRow (putObj W mb o) mb its := by
  have hnd := h.nodup
  obtain ⟨es, clk, hb, hs, hp⟩ := h
  obtain ⟨e, he, hk, hv⟩ := MapRow.entry hp (List.mem_cons_self)
  rcases findNow_spec (d := .string) (k := .string (bs x.ent.key)) trivial es.toList 0 (MapRow.keys hp) with ⟨h1, h2⟩ | ⟨j, e', h1, h2, h3⟩
  · exact absurd hk (h2 e he)
  · have he' := List.mem_of_getElem? h2
    have hjl : j < es.size := by have := (List.getElem?_eq_some_iff.1 h2).1; simpa using this
    rw [Nat.zero_add] at h1
    refine ⟨.map (es.eraseIdxIfInBounds j) clk, ?_, _, _, putObj_at hb, stamped_erase hs j, ?_⟩
    · simp [Builtin.delete_, run_underlying mapT_u, MapKept.run_getObj_map hb, run_checkKey Try.underlying9 (k := .string (bs x.ent.key)) trivial, run_findKey Try.underlying9 h1, run_setObj_map _ hb, Result.andThen, putObj]
    · have hv' : e'.val = x.ptr := by
        obtain ⟨y, hy, hk2, hv2⟩ := MapRow.item hp he'
        rw [hv2]
        rw [hk2] at h3
        have hkk : y.ent.key = x.ent.key := bs_inj (by injection h3)
        rcases List.mem_cons.1 hy with rfl | hy
        · rfl
        · rw [List.map_cons, List.nodup_cons] at hnd
          exact absurd (List.mem_map.2 ⟨y, hy, hkk⟩) hnd.1
      have h4 : es.toList.Perm (e' :: es.toList.eraseIdx j) := by
        have h5 : es.toList[j]'(by simpa using hjl) = e' := by rw [List.getElem?_eq_getElem (by simpa using hjl)] at h2; exact Option.some.inj h2
        rw [← h5]
        rw [List.eraseIdx_eq_take_drop_succ]
        refine List.Perm.trans (List.Perm.of_eq ?_) List.perm_middle
        rw [← List.drop_eq_getElem_cons, List.take_append_drop]
      have h5 := (h4.map fun x => (x.key, x.val)).symm.trans hp
      rw [List.map_cons, List.map_cons] at h5
      have h6 : (e'.key, e'.val) = x.ent2 := by rw [h3, hv']; rfl
      rw [h6] at h5
      have h7 := (List.perm_cons _).1 h5
      have h8 : (es.eraseIdxIfInBounds j).toList = es.toList.eraseIdx j := by
        unfold Array.eraseIdxIfInBounds
        rw [dif_pos hjl, Array.toList_eraseIdx]
      rw [h8]; exact h7

theorem map_len {W : World} {mb : Nat} {its : List It} (h : MapRow W mb its) (T : TypeId) :
    (Builtin.len_ #[87] T #[.map (some mb)]).run Try.prog W = .ok (.int .i64 its.length) W := by
  obtain ⟨es, clk, hb, hs, hp⟩ := h
  have : es.size = its.length := by simpa using hp.length_eq
  simp [Builtin.len_, run_underlying mapT_u, MapKept.run_getObj_map hb, Result.andThen, goInt, this]
end Go.Proofs.Ytihfapnipifiiaa
