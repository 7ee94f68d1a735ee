/- The walks of the heap's methods: Len, Less, Swap. -/
import Derived.Test.YtihfapnipifiiaaItem
namespace Go.Proofs.Ytihfapnipifiiaa
open Go Go.RowKit Go.Shelf

theorem HeapRow.rowAt {W : World} {g cap : Nat} {its : List It} (h : HeapRow W g cap its) {i : Nat} {x : It} (hi : its[i]? = some x) : W.cell? ⟨g, i, none⟩ = some (.pointer (some ⟨x.blk, 0, none⟩)) ∧ W.frozen? ⟨g, i, none⟩ = false := by
  have hlt : i < its.length := (List.getElem?_eq_some_iff.1 hi).1
  have := h.row.cell hlt
  rw [hi] at this
  exact this

def untilAt (its : List It) (i : Nat) : Int := ((its[i]?).map fun x => x.ent.til).getD 0
theorem untilAt_of {its : List It} {i : Nat} {x : It} (h : its[i]? = some x) : untilAt its i = x.ent.til := by unfold untilAt; rw [h]; rfl
theorem get_of_lt {its : List It} {i : Nat} (h : i < its.length) : ∃ x, its[i]? = some x := ⟨its[i], List.getElem?_eq_getElem h⟩

theorem hlen_any (A : Option Addr) (n cap : Nat) (w : World) :
    Calls Try.prog 157 #[.slice A n cap] w fun e w' => e = .returned (.int .i64 n) ∧ w = w' := by
  go_enter Try.func157, Try.ntmps157
  go_wp2
  go_ret
  exact ⟨rfl, rfl⟩

set_option maxRecDepth 100000 in
set_option maxHeartbeats 1000000 in
theorem hless_any (g cap i j : Nat) (its : List It) (w : World) (h : HeapRow w g cap its) (hi : i < its.length) (hj : j < its.length) :
    Calls Try.prog 158 #[.slice (some ⟨g, 0, none⟩) its.length cap, .int .i64 i, .int .i64 j] w fun e w' => e = .returned (.bool (decide (untilAt its i < untilAt its j))) ∧ ∃ n, w' = w.drewN n := by
  obtain ⟨x, hx⟩ := get_of_lt hi
  obtain ⟨y, hy⟩ := get_of_lt hj
  have r1 := (h.rowAt hx).1
  have r2 := (h.rowAt hy).1
  have c1 : w.cell? ⟨x.blk, 5, none⟩ = some (.int .i64 x.ent.til) := (h.items _ _ hx).cell rfl
  have c2 : w.cell? ⟨y.blk, 5, none⟩ = some (.int .i64 y.ent.til) := (h.items _ _ hy).cell rfl
  have Ex := Lib.hid (untilAt_of hx)
  have Ey := Lib.hid (untilAt_of hy)
  rw [Ex.out, Ey.out]
  have hmost : its.length ≤ 9223372036854775807 := by have := h.le; have h2 := h.most; unfold maxLen at h2; omega
  clear h hx hy
  generalize its.length = n at *
  go_enter Try.func158, Try.ntmps158
  go_wp2
  go_quiet (fail)
  go_wp2
  go_ret
  exact ⟨rfl, _, rfl⟩

theorem HeapRow.blk_ne {W : World} {g cap : Nat} {its : List It} (h : HeapRow W g cap its) {i : Nat} {x : It} (hi : its[i]? = some x) : x.blk ≠ g := by
  intro e
  have h1 := h.items _ _ hi
  obtain ⟨cur, h2, _⟩ := h.row
  unfold ItemAt at h1
  rw [e, h2] at h1
  cases h1
theorem HeapRow.blk_apart {W : World} {g cap : Nat} {its : List It} (h : HeapRow W g cap its) {i j : Nat} {x y : It} (hi : its[i]? = some x) (hj : its[j]? = some y) (hij : i ≠ j) : x.blk ≠ y.blk := by
  obtain ⟨hi1, rfl⟩ := List.getElem?_eq_some_iff.1 hi
  obtain ⟨hj1, rfl⟩ := List.getElem?_eq_some_iff.1 hj
  have hp := List.pairwise_iff_getElem.1 h.nodup
  rcases Nat.lt_or_gt_of_ne hij with hlt | hlt
  · have := hp i j (by simpa using hi1) (by simpa using hj1) hlt
    simpa using this
  · have := hp j i (by simpa using hj1) (by simpa using hi1) hlt
    intro e; exact this (by simpa using e.symm)

/-- Two elements are exchanged. -/
def swapL (its : List It) (i j : Nat) : List It := match its[i]?, its[j]? with
  | some x, some y => (its.set i y).set j x
  | _, _ => its

theorem swapL_eq {its : List It} {i j : Nat} {x y : It} (hx : its[i]? = some x) (hy : its[j]? = some y) : swapL its i j = (its.set i y).set j x := by unfold swapL; rw [hx, hy]
theorem swapL_perm (its : List It) (i j : Nat) : (swapL its i j).Perm its := by
  unfold swapL
  cases hx : its[i]? with
  | none => exact List.Perm.refl _
  | some x =>
    cases hy : its[j]? with
    | none => exact List.Perm.refl _
    | some y =>
      obtain ⟨hi, rfl⟩ := List.getElem?_eq_some_iff.1 hx
      obtain ⟨hj, rfl⟩ := List.getElem?_eq_some_iff.1 hy
      have h := Array.swap_perm (xs := its.toArray) (i := i) (j := j) (by simpa using hi) (by simpa using hj)
      have := Array.perm_iff_toList_perm.1 h
      simpa [Array.toList_swap] using this
theorem swapL_length (its : List It) (i j : Nat) : (swapL its i j).length = its.length := (swapL_perm its i j).length_eq
theorem HeapRow.swap {W : World} {g cap : Nat} {its : List It} (h : HeapRow W g cap its) {i j : Nat} {x y : It} (hx : its[i]? = some x) (hy : its[j]? = some y) (hij : i ≠ j) :
    HeapRow ((((W.setCell ⟨g, i, none⟩ (.pointer (some ⟨y.blk, 0, none⟩))).setCell ⟨g, j, none⟩ (.pointer (some ⟨x.blk, 0, none⟩))).setCell ⟨y.blk, 11, none⟩ (.int .i64 i)).setCell ⟨x.blk, 11, none⟩ (.int .i64 j)) g cap (swapL its i j) := by
  have hn1 := h.blk_ne hx
  have hn2 := h.blk_ne hy
  have hn3 := h.blk_apart hx hy hij
  have hi : i < its.length := (List.getElem?_eq_some_iff.1 hx).1
  have hj : j < its.length := (List.getElem?_eq_some_iff.1 hy).1
  have eg : ∀ (V : World) (b : Nat) (v : Value), b ≠ g → (V.setCell ⟨b, 11, none⟩ v).heap[g]? = V.heap[g]? := fun V b v hb => Below.heap_setCell _ _ _ _ (fun e => hb e.symm)
  refine ⟨?_, ?_, ?_, by rw [swapL_length]; exact h.le, h.most⟩
  · rw [swapL_length]
    have h1 := (h.row.set (i := i) (.pointer (some ⟨y.blk, 0, none⟩))).set (i := j) (.pointer (some ⟨x.blk, 0, none⟩))
    obtain ⟨cur, c1, c2, c3⟩ := h1
    refine ⟨cur, by rw [eg _ _ _ hn1, eg _ _ _ hn2]; exact c1, c2, fun k hk => ?_⟩
    rw [c3 k hk, swapL_eq hx hy]
    dsimp only
    rw [List.getElem?_set, List.length_set, List.getElem?_set]
    by_cases e1 : k = j
    · subst e1; simp [hk, It.ptr]
    · have e1' : ¬ j = k := fun e => e1 e.symm
      by_cases e2 : k = i
      · subst e2; simp [hk, It.ptr, e1, e1']
      · have e2' : ¬ i = k := fun e => e2 e.symm
        simp [e1, e1', e2, e2']
  · intro k z hz
    rw [swapL_eq hx hy, List.getElem?_set, List.length_set, List.getElem?_set] at hz
    have item : ∀ {V : World} {u : It} {a : Nat} (b o : Nat) (v : Value), u.blk ≠ b → ItemAt V u a → ItemAt (V.setCell ⟨b, o, none⟩ v) u a := fun b o v hb hu => hu.same (Below.heap_setCell _ _ _ _ hb)
    by_cases e1 : j = k
    · subst e1
      rw [if_pos rfl, if_pos hj] at hz; cases hz
      exact (item _ _ _ hn3 (item _ _ _ hn1 (item _ _ _ hn1 (h.items _ _ hx)))).setAt j
    · rw [if_neg e1] at hz
      by_cases e2 : i = k
      · subst e2
        rw [if_pos rfl, if_pos hi] at hz; cases hz
        exact item _ _ _ (fun e => hn3 e.symm) ((item _ _ _ hn2 (item _ _ _ hn2 (h.items _ _ hy))).setAt i)
      · rw [if_neg e2] at hz
        have z1 := h.blk_ne hz
        exact item _ _ _ (h.blk_apart hz hx (fun e => e2 e.symm)) (item _ _ _ (h.blk_apart hz hy (fun e => e1 e.symm)) (item _ _ _ z1 (item _ _ _ z1 (h.items _ _ hz))))
  · exact ((swapL_perm its i j).map It.blk).nodup_iff.2 h.nodup
theorem HeapRow.drew {W : World} {g cap : Nat} {its : List It} (h : HeapRow W g cap its) : HeapRow W.drew g cap its := ⟨h.row, h.items, h.nodup, h.le, h.most⟩
theorem HeapRow.drewN {W : World} {g cap : Nat} {its : List It} (h : HeapRow W g cap its) (n : Nat) : HeapRow (W.drewN n) g cap its := ⟨h.row, h.items, h.nodup, h.le, h.most⟩
theorem mem_blk {its : List It} {i : Nat} {x : It} (h : its[i]? = some x) : x.blk ∈ its.map It.blk := List.mem_map.2 ⟨x, List.mem_of_getElem? h, rfl⟩

set_option maxRecDepth 100000 in
set_option maxHeartbeats 2000000 in
theorem hswap_any (g cap i j : Nat) (its : List It) (w : World) (h : HeapRow w g cap its) (hi : i < its.length) (hj : j < its.length) (hij : i ≠ j) :
    Calls Try.prog 159 #[.slice (some ⟨g, 0, none⟩) its.length cap, .int .i64 i, .int .i64 j] w fun e w' => e = .returned (.tuple #[]) ∧ HeapRow w' g cap (swapL its i j) ∧ ModS (fun k => k = g ∨ k ∈ its.map It.blk) w w' := by
  obtain ⟨x, hx⟩ := get_of_lt hi
  obtain ⟨y, hy⟩ := get_of_lt hj
  obtain ⟨r1, f1⟩ := h.rowAt hx
  obtain ⟨r2, f2⟩ := h.rowAt hy
  have c1 : w.cell? ⟨x.blk, 11, none⟩ = some (.int .i64 i) := (h.items _ _ hx).cell rfl
  have c2 : w.cell? ⟨y.blk, 11, none⟩ = some (.int .i64 j) := (h.items _ _ hy).cell rfl
  have d1 := (h.items _ _ hx).free 11
  have d2 := (h.items _ _ hy).free 11
  have n1 : x.blk ≠ g := h.blk_ne hx
  have n2 : y.blk ≠ g := h.blk_ne hy
  have n3 : x.blk ≠ y.blk := h.blk_apart hx hy hij
  have n1' : g ≠ x.blk := fun e => n1 e.symm
  have n2' : g ≠ y.blk := fun e => n2 e.symm
  have n3' : y.blk ≠ x.blk := fun e => n3 e.symm
  have hij' : j ≠ i := fun e => hij e.symm
  have hmost : its.length ≤ 9223372036854775807 := by have := h.le; have h2 := h.most; unfold maxLen at h2; omega
  obtain ⟨n, hn⟩ : ∃ n, n = its.length := ⟨_, rfl⟩
  rw [← hn] at hi hj hmost ⊢
  have Hn := Lib.hid hn
  have H := Lib.hid h
  have Hx := Lib.hid hx
  have Hy := Lib.hid hy
  clear hn h hx hy
  go_enter Try.func159, Try.ntmps159
  go_wp2
  go_region
  all_goals go_wp2
  all_goals go_region
  all_goals go_wp2
  all_goals go_end0
  all_goals exact ⟨rfl, (H.out.swap Hx.out Hy.out hij).drew.drew, (((((ModS.refl _ _).set (.inl rfl) _).set (.inl rfl) _).set (.inr (mem_blk Hy.out)) _).set (.inr (mem_blk Hx.out)) _).drew.drew⟩
end Go.Proofs.Ytihfapnipifiiaa
