/- The walks of the heap's methods: Len, Less, Swap. The walks of container/heap's up and down. The walk of container/heap's down. The walks of the heap's methods: Push, Pop. The walks of container/heap's Push and Remove. The walk of container/heap's Remove. -/
import Derived.Test.YtihfapnipifiiaaRef5
set_option linter.unusedVariables false
set_option linter.unusedSimpArgs false
/- The walks of the heap's methods: Len, Less, Swap. -/
namespace Go.Proofs.Ytihfapnipifiiaa
open Go Go.RowKit Go.Shelf

theorem HeapRow.rowAt {W : World} {g cap : Nat} {its : List It} (h : HeapRow W g cap its) {i : Nat} {x : It} (hi : its[i]? = some x) : W.cell? ⟨g, i, none⟩ = some (.pointer (some ⟨x.blk, 0, none⟩)) ∧ W.frozen? ⟨g, i, none⟩ = false := by
  have hlt : i < its.length := (List.getElem?_eq_some_iff.1 hi).1
  have := h.row.cell hlt
  rw [hi] at this
  exact this

def untilAt (its : List It) (i : Nat) : Int := ((its[i]?).map fun x => x.ent.til).getD 0
theorem untilAt_of {its : List It} {i : Nat} {x : It} (h : its[i]? = some x) : untilAt its i = x.ent.til := by unfold untilAt; rw [h]; rfl
theorem get_of_lt {its : List It} {i : Nat} (h : i < its.length) : ∃ x, its[i]? = some x := ⟨its[i], List.getElem?_eq_getElem h⟩

theorem hlen_any (A : Option Addr) (n cap : Nat) (w : World) :
    Calls Try.prog 157 #[.slice A n cap] w fun e w' => e = .returned (.int .i64 n) ∧ w = w' := by
  go_enter Try.func157, Try.ntmps157
  go_wp2
  go_ret
  exact ⟨rfl, rfl⟩

set_option maxRecDepth 100000 in
set_option maxHeartbeats 1000000 in
theorem hless_any (g cap i j : Nat) (its : List It) (w : World) (h : HeapRow w g cap its) (hi : i < its.length) (hj : j < its.length) :
    Calls Try.prog 158 #[.slice (some ⟨g, 0, none⟩) its.length cap, .int .i64 i, .int .i64 j] w fun e w' => e = .returned (.bool (decide (untilAt its i < untilAt its j))) ∧ ∃ n, w' = w.drewN n := by
  obtain ⟨x, hx⟩ := get_of_lt hi
  obtain ⟨y, hy⟩ := get_of_lt hj
  have r1 := (h.rowAt hx).1
  have r2 := (h.rowAt hy).1
  have c1 : w.cell? ⟨x.blk, 5, none⟩ = some (.int .i64 x.ent.til) := (h.items _ _ hx).cell rfl
  have c2 : w.cell? ⟨y.blk, 5, none⟩ = some (.int .i64 y.ent.til) := (h.items _ _ hy).cell rfl
  have Ex := Lib.hid (untilAt_of hx)
  have Ey := Lib.hid (untilAt_of hy)
  rw [Ex.out, Ey.out]
  have hmost : its.length ≤ 9223372036854775807 := by have := h.le; have h2 := h.most; unfold maxLen at h2; omega
  clear h hx hy
  generalize its.length = n at *
  go_enter Try.func158, Try.ntmps158
  go_wp2
  go_quiet (fail)
  go_wp2
  go_ret
  exact ⟨rfl, _, rfl⟩

theorem HeapRow.blk_ne {W : World} {g cap : Nat} {its : List It} (h : HeapRow W g cap its) {i : Nat} {x : It} (hi : its[i]? = some x) : x.blk ≠ g := by
  intro e
  have h1 := h.items _ _ hi
  obtain ⟨cur, h2, _⟩ := h.row
  unfold ItemAt at h1
  rw [e, h2] at h1
  cases h1
theorem HeapRow.blk_apart {W : World} {g cap : Nat} {its : List It} (h : HeapRow W g cap its) {i j : Nat} {x y : It} (hi : its[i]? = some x) (hj : its[j]? = some y) (hij : i ≠ j) : x.blk ≠ y.blk := by
  obtain ⟨hi1, rfl⟩ := List.getElem?_eq_some_iff.1 hi
  obtain ⟨hj1, rfl⟩ := List.getElem?_eq_some_iff.1 hj
  have hp := List.pairwise_iff_getElem.1 h.nodup
  rcases Nat.lt_or_gt_of_ne hij with hlt | hlt
  · have := hp i j (by simpa using hi1) (by simpa using hj1) hlt
    simpa using this
  · have := hp j i (by simpa using hj1) (by simpa using hi1) hlt
    intro e; exact this (by simpa using e.symm)

/-- Two elements are exchanged. -/
def swapL (its : List It) (i j : Nat) : List It := match its[i]?, its[j]? with
  | some x, some y => (its.set i y).set j x
  | _, _ => its

theorem swapL_eq {its : List It} {i j : Nat} {x y : It} (hx : its[i]? = some x) (hy : its[j]? = some y) : swapL its i j = (its.set i y).set j x := by unfold swapL; rw [hx, hy]
theorem swapL_perm (its : List It) (i j : Nat) : (swapL its i j).Perm its := by
  unfold swapL
  cases hx : its[i]? with
  | none => exact List.Perm.refl _
  | some x =>
    cases hy : its[j]? with
    | none => exact List.Perm.refl _
    | some y =>
      obtain ⟨hi, rfl⟩ := List.getElem?_eq_some_iff.1 hx
      obtain ⟨hj, rfl⟩ := List.getElem?_eq_some_iff.1 hy
      have h := Array.swap_perm (xs := its.toArray) (i := i) (j := j) (by simpa using hi) (by simpa using hj)
      have := Array.perm_iff_toList_perm.1 h
      simpa [Array.toList_swap] using this
theorem swapL_length (its : List It) (i j : Nat) : (swapL its i j).length = its.length := (swapL_perm its i j).length_eq
theorem HeapRow.swap {W : World} {g cap : Nat} {its : List It} (h : HeapRow W g cap its) {i j : Nat} {x y : It} (hx : its[i]? = some x) (hy : its[j]? = some y) (hij : i ≠ j) :
    HeapRow ((((W.setCell ⟨g, i, none⟩ (.pointer (some ⟨y.blk, 0, none⟩))).setCell ⟨g, j, none⟩ (.pointer (some ⟨x.blk, 0, none⟩))).setCell ⟨y.blk, 11, none⟩ (.int .i64 i)).setCell ⟨x.blk, 11, none⟩ (.int .i64 j)) g cap (swapL its i j) := by
  have hn1 := h.blk_ne hx
  have hn2 := h.blk_ne hy
  have hn3 := h.blk_apart hx hy hij
  have hi : i < its.length := (List.getElem?_eq_some_iff.1 hx).1
  have hj : j < its.length := (List.getElem?_eq_some_iff.1 hy).1
  have eg : ∀ (V : World) (b : Nat) (v : Value), b ≠ g → (V.setCell ⟨b, 11, none⟩ v).heap[g]? = V.heap[g]? := fun V b v hb => Below.heap_setCell _ _ _ _ (fun e => hb e.symm)
  refine ⟨?_, ?_, ?_, by rw [swapL_length]; exact h.le, h.most⟩
  · rw [swapL_length]
    have h1 := (h.row.set (i := i) (.pointer (some ⟨y.blk, 0, none⟩))).set (i := j) (.pointer (some ⟨x.blk, 0, none⟩))
    obtain ⟨cur, c1, c2, c3⟩ := h1
    refine ⟨cur, by rw [eg _ _ _ hn1, eg _ _ _ hn2]; exact c1, c2, fun k hk => ?_⟩
    rw [c3 k hk, swapL_eq hx hy]
    dsimp only
    rw [List.getElem?_set, List.length_set, List.getElem?_set]
    by_cases e1 : k = j
    · subst e1; simp [hk, It.ptr]
    · have e1' : ¬ j = k := fun e => e1 e.symm
      by_cases e2 : k = i
      · subst e2; simp [hk, It.ptr, e1, e1']
      · have e2' : ¬ i = k := fun e => e2 e.symm
        simp [e1, e1', e2, e2']
  · intro k z hz
    rw [swapL_eq hx hy, List.getElem?_set, List.length_set, List.getElem?_set] at hz
    have item : ∀ {V : World} {u : It} {a : Nat} (b o : Nat) (v : Value), u.blk ≠ b → ItemAt V u a → ItemAt (V.setCell ⟨b, o, none⟩ v) u a := fun b o v hb hu => hu.same (Below.heap_setCell _ _ _ _ hb)
    by_cases e1 : j = k
    · subst e1
      rw [if_pos rfl, if_pos hj] at hz; cases hz
      exact (item _ _ _ hn3 (item _ _ _ hn1 (item _ _ _ hn1 (h.items _ _ hx)))).setAt j
    · rw [if_neg e1] at hz
      by_cases e2 : i = k
      · subst e2
        rw [if_pos rfl, if_pos hi] at hz; cases hz
        exact item _ _ _ (fun e => hn3 e.symm) ((item _ _ _ hn2 (item _ _ _ hn2 (h.items _ _ hy))).setAt i)
      · rw [if_neg e2] at hz
        have z1 := h.blk_ne hz
        exact item _ _ _ (h.blk_apart hz hx (fun e => e2 e.symm)) (item _ _ _ (h.blk_apart hz hy (fun e => e1 e.symm)) (item _ _ _ z1 (item _ _ _ z1 (h.items _ _ hz))))
  · exact ((swapL_perm its i j).map It.blk).nodup_iff.2 h.nodup
theorem HeapRow.drew {W : World} {g cap : Nat} {its : List It} (h : HeapRow W g cap its) : HeapRow W.drew g cap its := ⟨h.row, h.items, h.nodup, h.le, h.most⟩
theorem HeapRow.drewN {W : World} {g cap : Nat} {its : List It} (h : HeapRow W g cap its) (n : Nat) : HeapRow (W.drewN n) g cap its := ⟨h.row, h.items, h.nodup, h.le, h.most⟩
theorem mem_blk {its : List It} {i : Nat} {x : It} (h : its[i]? = some x) : x.blk ∈ its.map It.blk := List.mem_map.2 ⟨x, List.mem_of_getElem? h, rfl⟩

set_option maxRecDepth 100000 in
set_option maxHeartbeats 2000000 in
theorem hswap_any (g cap i j : Nat) (its : List It) (w : World) (h : HeapRow w g cap its) (hi : i < its.length) (hj : j < its.length) (hij : i ≠ j) :
    Calls Try.prog 159 #[.slice (some ⟨g, 0, none⟩) its.length cap, .int .i64 i, .int .i64 j] w fun e w' => e = .returned (.tuple #[]) ∧ HeapRow w' g cap (swapL its i j) ∧ ModS (fun k => k = g ∨ k ∈ its.map It.blk) w w' := by
  obtain ⟨x, hx⟩ := get_of_lt hi
  obtain ⟨y, hy⟩ := get_of_lt hj
  obtain ⟨r1, f1⟩ := h.rowAt hx
  obtain ⟨r2, f2⟩ := h.rowAt hy
  have c1 : w.cell? ⟨x.blk, 11, none⟩ = some (.int .i64 i) := (h.items _ _ hx).cell rfl
  have c2 : w.cell? ⟨y.blk, 11, none⟩ = some (.int .i64 j) := (h.items _ _ hy).cell rfl
  have d1 := (h.items _ _ hx).free 11
  have d2 := (h.items _ _ hy).free 11
  have n1 : x.blk ≠ g := h.blk_ne hx
  have n2 : y.blk ≠ g := h.blk_ne hy
  have n3 : x.blk ≠ y.blk := h.blk_apart hx hy hij
  have n1' : g ≠ x.blk := fun e => n1 e.symm
  have n2' : g ≠ y.blk := fun e => n2 e.symm
  have n3' : y.blk ≠ x.blk := fun e => n3 e.symm
  have hij' : j ≠ i := fun e => hij e.symm
  have hmost : its.length ≤ 9223372036854775807 := by have := h.le; have h2 := h.most; unfold maxLen at h2; omega
  obtain ⟨n, hn⟩ : ∃ n, n = its.length := ⟨_, rfl⟩
  rw [← hn] at hi hj hmost ⊢
  have Hn := Lib.hid hn
  have H := Lib.hid h
  have Hx := Lib.hid hx
  have Hy := Lib.hid hy
  clear hn h hx hy
  go_enter Try.func159, Try.ntmps159
  go_wp2
  go_region
  all_goals go_wp2
  all_goals go_region
  all_goals go_wp2
  all_goals go_end0
  all_goals exact ⟨rfl, (H.out.swap Hx.out Hy.out hij).drew.drew, (((((ModS.refl _ _).set (.inl rfl) _).set (.inl rfl) _).set (.inr (mem_blk Hy.out)) _).set (.inr (mem_blk Hx.out)) _).drew.drew⟩
end Go.Proofs.Ytihfapnipifiiaa
/- The walks of container/heap's up and down. -/
namespace Go.Proofs.Ytihfapnipifiiaa
open Go Go.RowKit Go.Shelf

theorem find_less : (Try.t106.methods.find? (fun x => x.name == "Less")).map (fun m => (m.path, m.func)) = some (#[], some (158, false)) := by kernel_rfl
theorem find_swap : (Try.t106.methods.find? (fun x => x.name == "Swap")).map (fun m => (m.path, m.func)) = some (#[], some (159, false)) := by kernel_rfl
theorem find_len : (Try.t106.methods.find? (fun x => x.name == "Len")).map (fun m => (m.path, m.func)) = some (#[], some (157, false)) := by kernel_rfl
theorem find_push : (Try.t106.methods.find? (fun x => x.name == "Push")).map (fun m => (m.path, m.func)) = some (#[], some (161, true)) := by kernel_rfl
theorem find_pop : (Try.t106.methods.find? (fun x => x.name == "Pop")).map (fun m => (m.path, m.func)) = some (#[], some (160, true)) := by kernel_rfl

theorem wrapnil (ts : Array TypeId) (ty : TypeId) (a : Addr) (x y : String) : Builtin.ssaWrapNilChk_ ts ty #[.pointer (some a), strVal x, strVal y] = pure (.pointer (some a)) := rfl

set_option maxRecDepth 100000 in
theorem method_val {name : String} {f : Nat} (hf : (Try.t106.methods.find? (fun x => x.name == name)).map (fun m => (m.path, m.func)) = some (#[], some (f, false))) (sa : Addr) (A : Option Addr) (n cap : Nat) (w : World) (h : w.cell? sa = some (.slice A n cap)) :
    (method 319 106 (.pointer (some sa)) name).run Try.prog w = .ok (f, .slice A n cap) w := by
  unfold method
  cases hm : Try.t106.methods.find? (fun x => x.name == name) with
  | none => rw [hm] at hf; cases hf
  | some m =>
    rw [hm] at hf
    simp only [Option.map_some, Option.some.injEq, Prod.mk.injEq] at hf
    simp [go_sem, h, hm, hf.1, hf.2, follow, receiverAt, Place.get, wrapnil]

theorem ModS.cell {S : Nat → Prop} {w w' : World} (h : ModS S w w') {a : Addr} {v : Value} (ha : w.cell? a = some v) (hn : ¬ S a.block) : w'.cell? a = some v :=
  (World.cell?_of_block (h.block _ (blk_of_cell ha) hn)).trans ha
theorem ModS.frozen {S : Nat → Prop} {w w' : World} (h : ModS S w w') {a : Addr} (ha : a.block < w.heap.size) (hn : ¬ S a.block) : w'.frozen? a = w.frozen? a :=
  World.frozen?_of_block (h.block _ ha hn)

/-- What 'up' makes of a row. -/
def upL (its : List It) (j : Nat) : List It :=
  if j = 0 then its
  else if untilAt its j < untilAt its ((j - 1) / 2) then upL (swapL its ((j - 1) / 2) j) ((j - 1) / 2)
  else its
termination_by j
decreasing_by omega
theorem upL_zero (its : List It) : upL its 0 = its := by rw [upL, if_pos rfl]
theorem upL_stop {its : List It} {j : Nat} (h : ¬ untilAt its j < untilAt its ((j - 1) / 2)) : upL its j = its := by
  rw [upL]; split
  · rfl
  · rfl
theorem upL_go {its : List It} {j : Nat} (h0 : j ≠ 0) (h : untilAt its j < untilAt its ((j - 1) / 2)) : upL its j = upL (swapL its ((j - 1) / 2) j) ((j - 1) / 2) := by
  rw [upL, if_neg h0, if_pos h]

def heapS (g : Nat) (its : List It) (k : Nat) : Prop := k = g ∨ k ∈ its.map It.blk
theorem heapS_perm {g : Nat} {a b : List It} (h : a.Perm b) (k : Nat) : heapS g a k → heapS g b k := fun hk => hk.imp id (fun hm => (h.map It.blk).mem_iff.1 hm)

set_option maxRecDepth 100000 in
set_option maxHeartbeats 1000000 in
theorem hup_any (g cap j : Nat) (sa : Addr) (its : List It) (w : World) (h : HeapRow w g cap its) (hj : j < its.length) (hs : w.cell? sa = some (.slice (some ⟨g, 0, none⟩) its.length cap)) (hsa : ¬ heapS g its sa.block) :
    Calls Try.prog 95 #[.iface 106 (.pointer (some sa)), .int .i64 j] w fun e w' => e = .returned (.tuple #[]) ∧ HeapRow w' g cap (upL its j) ∧ ModS (heapS g its) w w' := by
  have hmost : its.length ≤ 9223372036854775807 := by have := h.le; have h2 := h.most; unfold maxLen at h2; omega
  go_enter Try.func95, Try.ntmps95
  go_wp2
  go_loopw [1] (fun j_ wr => ∃ (k : Nat) (xs : List It), j_ = .int .i64 k ∧ upL its j = upL xs k ∧ HeapRow wr g cap xs ∧ k < its.length ∧ xs.Perm its ∧ ModS (heapS g its) w wr) (fun j_ _ => (intOf j_).toNat)
  case atStart => exact ⟨j, its, rfl, rfl, h, hj, List.Perm.refl _, ModS.refl _ _⟩
  case round =>
    obtain ⟨k, xs, rfl, hu, hr, hk, hp, hm⟩ := hrel
    have hlen := hp.length_eq
    have hc := hm.cell hs hsa
    have Hu := Lib.hid hu
    have Hlen := Lib.hid hlen
    have HR := Lib.hid hr
    clear hu h hr hlen hs
    by_cases hk0 : k = 0
    · subst hk0
      go_wp2
      go_end0
      rw [Hu.out, upL_zero]
      exact ⟨rfl, HR.out, hm⟩
    · have hk1 : 1 ≤ k := by omega
      have hb : (((k : Int) - 1) / 2 == (k : Int)) = false := by rw [beq_eq_false_iff_ne]; omega
      obtain ⟨i, hi⟩ : ∃ i : Nat, i = (k - 1) / 2 := ⟨_, rfl⟩
      have hii : ((k : Int) - 1) / 2 = i := by omega
      have hik : i < k := by omega
      have Hi := Lib.hid hi
      have ml := method_val find_less sa _ _ _ wr hc
      clear hi
      go_wp2_with fail
      rw [← Hlen.out]
      refine (hless_any g cap k i xs wr HR.out (by have := Hlen.out; omega) (by have := Hlen.out; omega)).mono ?_
      rintro e w1 ⟨rfl, nq, rfl⟩
      by_cases hlt : untilAt xs k < untilAt xs i
      · have hd : decide (untilAt xs k < untilAt xs i) = true := decide_eq_true hlt
        have Hlt := Lib.hid hlt
        clear hlt
        have hc1 : (wr.drewN nq).cell? sa = some (.slice (some ⟨g, 0, none⟩) its.length cap) := hc
        have ms := method_val find_swap sa _ _ _ (wr.drewN nq) hc1
        go_wp2_with fail
        rw [← Hlen.out]
        refine (hswap_any g cap i k xs _ (HR.out.drewN nq) (by have := Hlen.out; omega) (by have := Hlen.out; omega) (by omega)).mono ?_
        rintro e w2 ⟨rfl, h2, hm2⟩
        go_wp2
        go_roundw
        case rel =>
          refine ⟨i, _, rfl, ?_, h2, by omega, (swapL_perm _ _ _).trans hp, (hm.drewN nq).trans (hm2.mono (fun z hz => heapS_perm hp z hz))⟩
          rw [Hu.out, upL_go hk0 (by rw [← Hi.out]; exact Hlt.out), ← Hi.out]
        case measure => simp [intOf]; omega
      · have hd : decide (untilAt xs k < untilAt xs i) = false := decide_eq_false hlt
        have Hlt := Lib.hid hlt
        clear hlt
        go_wp2
        go_end0
        rw [Hu.out, upL_stop (by rw [← Hi.out]; have := Hlt.out; omega)]
        exact ⟨rfl, HR.out.drewN nq, hm.drewN nq⟩
end Go.Proofs.Ytihfapnipifiiaa
/- The walk of container/heap's down. -/
namespace Go.Proofs.Ytihfapnipifiiaa
open Go Go.RowKit Go.Shelf

/-- The lesser child. -/
def childL (its : List It) (i n : Nat) : Nat := if 2 * i + 2 < n ∧ untilAt its (2 * i + 2) < untilAt its (2 * i + 1) then 2 * i + 2 else 2 * i + 1
theorem childL_gt (its : List It) (i n : Nat) : i < childL its i n ∧ childL its i n ≤ 2 * i + 2 := by unfold childL; split <;> omega
/-- What 'down' makes of a row, and where it ends. -/
def downL (its : List It) (i n : Nat) : List It × Nat :=
  if n ≤ 2 * i + 1 then (its, i)
  else if untilAt its (childL its i n) < untilAt its i then downL (swapL its i (childL its i n)) (childL its i n) n
  else (its, i)
termination_by n - i
decreasing_by have := childL_gt its i n; omega
theorem downL_end {its : List It} {i n : Nat} (h : n ≤ 2 * i + 1) : downL its i n = (its, i) := by rw [downL, if_pos h]
theorem downL_stop {its : List It} {i n : Nat} (h : ¬ untilAt its (childL its i n) < untilAt its i) : downL its i n = (its, i) := by
  rw [downL]; split
  · rfl
  · rfl
theorem downL_go {its : List It} {i n : Nat} (h0 : ¬ n ≤ 2 * i + 1) (h : untilAt its (childL its i n) < untilAt its i) : downL its i n = downL (swapL its i (childL its i n)) (childL its i n) n := by
  rw [downL, if_neg h0, if_pos h]

set_option maxRecDepth 100000 in
set_option maxHeartbeats 2000000 in
theorem hdown_any (g cap i0 n : Nat) (sa : Addr) (its : List It) (w : World) (h : HeapRow w g cap its) (hn : n ≤ its.length) (hi0 : i0 < its.length) (hb20 : its.length ≤ 1099511627776) (hs : w.cell? sa = some (.slice (some ⟨g, 0, none⟩) its.length cap)) (hsa : ¬ heapS g its sa.block) :
    Calls Try.prog 114 #[.iface 106 (.pointer (some sa)), .int .i64 i0, .int .i64 n] w fun e w' => e = .returned (.bool (decide (i0 < (downL its i0 n).2))) ∧ HeapRow w' g cap (downL its i0 n).1 ∧ ModS (heapS g its) w w' := by
  go_enter Try.func114, Try.ntmps114
  go_wp2
  go_loopw [7] (fun i_ wr => ∃ (k : Nat) (xs : List It), i_ = .int .i64 k ∧ downL its i0 n = downL xs k n ∧ HeapRow wr g cap xs ∧ k < its.length ∧ xs.Perm its ∧ ModS (heapS g its) w wr) (fun i_ _ => its.length - (intOf i_).toNat)
  case atStart => exact ⟨i0, its, rfl, rfl, h, hi0, List.Perm.refl _, ModS.refl _ _⟩
  case round =>
    obtain ⟨k, xs, rfl, hu, hr, hk, hp, hm⟩ := hrel
    have hlen := hp.length_eq
    have hc := hm.cell hs hsa
    have Hu := Lib.hid hu
    have Hlen := Lib.hid hlen
    have HR := Lib.hid hr
    clear hu h hr hlen hs
    have fin : ∀ (wr' : World), HeapRow wr' g cap xs → ModS (heapS g its) w wr' → downL xs k n = (xs, k) →
        Ending.returned (.bool (decide (i0 < k))) = .returned (.bool (decide (i0 < (downL its i0 n).2))) ∧ HeapRow wr' g cap (downL its i0 n).1 ∧ ModS (heapS g its) w wr' := by
      intro wr' h1 h2 e
      rw [Hu.out, e]
      exact ⟨rfl, h1, h2⟩
    have Fin := Lib.hid fin
    clear fin
    by_cases hend : n ≤ 2 * k + 1
    · go_wp2
      go_ret
      exact Fin.out wr HR.out hm (downL_end hend)
    · have hlt1 : 2 * k + 1 < n := by omega
      have hkx : k < xs.length := by have := Hlen.out; omega
      have h1x : 2 * k + 1 < xs.length := by have := Hlen.out; omega
      obtain ⟨j1, hj1⟩ : ∃ j1 : Nat, j1 = 2 * k + 1 := ⟨_, rfl⟩
      obtain ⟨j2, hj2⟩ : ∃ j2 : Nat, j2 = j1 + 1 := ⟨_, rfl⟩
      have ej1 : (2 : Int) * k + 1 = (j1 : Int) := by omega
      have ej2 : (j1 : Int) + 1 = (j2 : Int) := by omega
      have l1 : j1 < n := by omega
      have l2 : k < j1 := by omega
      have l3 : j1 < its.length := by omega
      have l4 : j2 ≤ its.length := by omega
      have l5 : k < j2 := by omega
      have hch : childL xs k n = if j2 < n ∧ untilAt xs j2 < untilAt xs j1 then j2 else j1 := by unfold childL; rw [hj2, hj1]
      clear hj1 hj2 h1x hlt1
      by_cases h2 : j2 < n
      · have m1 := method_val find_less sa _ _ _ wr hc
        go_wp2_with fail
        rw [← Hlen.out]
        refine (hless_any g cap j2 j1 xs wr HR.out (by have := Hlen.out; omega) (by have := Hlen.out; omega)).mono ?_
        rintro e w1 ⟨rfl, nq, hw1⟩
        have HR1 : Hid (HeapRow w1 g cap xs) := Lib.hid (by rw [hw1]; exact HR.out.drewN nq)
        have hm1 : ModS (heapS g its) w w1 := by rw [hw1]; exact hm.drewN nq
        have hc1 : w1.cell? sa = some (.slice (some ⟨g, 0, none⟩) its.length cap) := by rw [hw1]; exact hc
        clear hw1
        by_cases hl1 : untilAt xs j2 < untilAt xs j1
        · have hd1 : decide (untilAt xs j2 < untilAt xs j1) = true := decide_eq_true hl1
          have Hch := Lib.hid (hch.trans (if_pos ⟨h2, hl1⟩))
          clear hch hl1 m1
          have mk := method_val find_less sa _ _ _ w1 hc1
          go_wp2_with fail
          rw [← Hlen.out]
          refine (hless_any g cap j2 k xs w1 HR1.out (by have := Hlen.out; omega) hkx).mono ?_
          rintro e w2 ⟨rfl, nq2, hw2⟩
          have HR2 : Hid (HeapRow w2 g cap xs) := Lib.hid (by rw [hw2]; exact HeapRow.drewN HR1.out nq2)
          have hm2 : ModS (heapS g its) w w2 := by rw [hw2]; exact ModS.drewN hm1 nq2
          have hc2 : w2.cell? sa = some (.slice (some ⟨g, 0, none⟩) its.length cap) := by rw [hw2]; exact hc1
          clear hw2
          by_cases hl2 : untilAt xs j2 < untilAt xs k
          · have hd2 : decide (untilAt xs j2 < untilAt xs k) = true := decide_eq_true hl2
            have Hl2 := Lib.hid hl2
            clear hl2
            have ms := method_val find_swap sa _ _ _ w2 hc2
            go_wp2_with fail
            rw [← Hlen.out]
            refine (hswap_any g cap k j2 xs _ HR2.out hkx (by have := Hlen.out; omega) (by omega)).mono ?_
            rintro e w3 ⟨rfl, h3, hm3⟩
            go_wp2
            go_roundw
            case rel =>
              refine ⟨j2, _, rfl, ?_, h3, by omega, (swapL_perm _ _ _).trans hp, hm2.trans (hm3.mono (fun z hz => heapS_perm hp z hz))⟩
              rw [Hu.out, downL_go hend (by rw [Hch.out]; exact Hl2.out), Hch.out]
            case measure => simp [intOf]; omega
          · have hd2 : decide (untilAt xs j2 < untilAt xs k) = false := decide_eq_false hl2
            have Hl2 := Lib.hid hl2
            clear hl2
            go_wp2
            go_ret
            exact Fin.out _ HR2.out hm2 (downL_stop (by rw [Hch.out]; have := Hl2.out; omega))
        · have hd1 : decide (untilAt xs j2 < untilAt xs j1) = false := decide_eq_false hl1
          have Hch := Lib.hid (hch.trans (if_neg (fun h => hl1 h.2)))
          clear hch hl1 m1
          have mk := method_val find_less sa _ _ _ w1 hc1
          go_wp2_with fail
          rw [← Hlen.out]
          refine (hless_any g cap j1 k xs w1 HR1.out (by have := Hlen.out; omega) hkx).mono ?_
          rintro e w2 ⟨rfl, nq2, hw2⟩
          have HR2 : Hid (HeapRow w2 g cap xs) := Lib.hid (by rw [hw2]; exact HeapRow.drewN HR1.out nq2)
          have hm2 : ModS (heapS g its) w w2 := by rw [hw2]; exact ModS.drewN hm1 nq2
          have hc2 : w2.cell? sa = some (.slice (some ⟨g, 0, none⟩) its.length cap) := by rw [hw2]; exact hc1
          clear hw2
          by_cases hl2 : untilAt xs j1 < untilAt xs k
          · have hd2 : decide (untilAt xs j1 < untilAt xs k) = true := decide_eq_true hl2
            have Hl2 := Lib.hid hl2
            clear hl2
            have ms := method_val find_swap sa _ _ _ w2 hc2
            go_wp2_with fail
            rw [← Hlen.out]
            refine (hswap_any g cap k j1 xs _ HR2.out hkx (by have := Hlen.out; omega) (by omega)).mono ?_
            rintro e w3 ⟨rfl, h3, hm3⟩
            go_wp2
            go_roundw
            case rel =>
              refine ⟨j1, _, rfl, ?_, h3, by omega, (swapL_perm _ _ _).trans hp, hm2.trans (hm3.mono (fun z hz => heapS_perm hp z hz))⟩
              rw [Hu.out, downL_go hend (by rw [Hch.out]; exact Hl2.out), Hch.out]
            case measure => simp [intOf]; omega
          · have hd2 : decide (untilAt xs j1 < untilAt xs k) = false := decide_eq_false hl2
            have Hl2 := Lib.hid hl2
            clear hl2
            go_wp2
            go_ret
            exact Fin.out _ HR2.out hm2 (downL_stop (by rw [Hch.out]; have := Hl2.out; omega))
      · have Hch := Lib.hid (hch.trans (if_neg (fun h => h2 h.1)))
        clear hch
        have mk := method_val find_less sa _ _ _ wr hc
        go_wp2_with fail
        rw [← Hlen.out]
        refine (hless_any g cap j1 k xs wr HR.out (by have := Hlen.out; omega) hkx).mono ?_
        rintro e w2 ⟨rfl, nq2, hw2⟩
        have HR2 : Hid (HeapRow w2 g cap xs) := Lib.hid (by rw [hw2]; exact HeapRow.drewN HR.out nq2)
        have hm2 : ModS (heapS g its) w w2 := by rw [hw2]; exact ModS.drewN hm nq2
        have hc2 : w2.cell? sa = some (.slice (some ⟨g, 0, none⟩) its.length cap) := by rw [hw2]; exact hc
        clear hw2
        by_cases hl2 : untilAt xs j1 < untilAt xs k
        · have hd2 : decide (untilAt xs j1 < untilAt xs k) = true := decide_eq_true hl2
          have Hl2 := Lib.hid hl2
          clear hl2
          have ms := method_val find_swap sa _ _ _ w2 hc2
          go_wp2_with fail
          rw [← Hlen.out]
          refine (hswap_any g cap k j1 xs _ HR2.out hkx (by have := Hlen.out; omega) (by omega)).mono ?_
          rintro e w3 ⟨rfl, h3, hm3⟩
          go_wp2
          go_roundw
          case rel =>
            refine ⟨j1, _, rfl, ?_, h3, by omega, (swapL_perm _ _ _).trans hp, hm2.trans (hm3.mono (fun z hz => heapS_perm hp z hz))⟩
            rw [Hu.out, downL_go hend (by rw [Hch.out]; exact Hl2.out), Hch.out]
          case measure => simp [intOf]; omega
        · have hd2 : decide (untilAt xs j1 < untilAt xs k) = false := decide_eq_false hl2
          have Hl2 := Lib.hid hl2
          clear hl2
          go_wp2
          go_ret
          exact Fin.out _ HR2.out hm2 (downL_stop (by rw [Hch.out]; have := Hl2.out; omega))
end Go.Proofs.Ytihfapnipifiiaa
/- The walks of the heap's methods: Push, Pop. -/
namespace Go.Proofs.Ytihfapnipifiiaa
open Go Go.RowKit Go.Shelf

theorem info_item : (Try.prog.info? 100).map (fun i => (i.zero, i.size, i.bytes)) = some (some (.pointer none), 1, 8) := by kernel_rfl

theorem own_of_row {W : World} {g cap : Nat} {e : TypeId} {base : Nat} {xs : List Value} (hb : base ≤ g) (hn : xs.length ≤ cap) (hm : cap ≤ maxLen)
    (h : RowIs W g e cap (fun i => xs.getD i undef) xs.length) : W.ownsRow base e 1 (.slice (some ⟨g, 0, none⟩) xs.length cap) xs.length xs := by
  obtain ⟨cur, h1, h2, h3⟩ := h
  refine ⟨by simp, .inr ⟨g, cap, cur, rfl, hb, h1, hn, hm, by omega, ?_⟩⟩
  apply List.ext_getElem?
  intro i
  rw [Nat.mul_one]
  by_cases hi : i < xs.length
  · rw [List.getElem?_take_of_lt hi, Array.getElem?_toList, h3 i hi, List.getElem?_eq_getElem hi]
    simp [List.getD, List.getElem?_eq_getElem hi]
  · rw [List.getElem?_take, if_neg hi, List.getElem?_eq_none (by omega)]
theorem row_of_own {W : World} {g n cap : Nat} {e : TypeId} {base : Nat} {xs : List Value} (h : W.ownsRow base e 1 (.slice (some ⟨g, 0, none⟩) n cap) n xs) :
    n = xs.length ∧ base ≤ g ∧ n ≤ cap ∧ cap ≤ maxLen ∧ RowIs W g e cap (fun i => xs.getD i undef) xs.length := by
  obtain ⟨hl, h | ⟨g', cap', cur, e', hb, hh, hn, hm, hs, ht⟩⟩ := h
  · cases h.1
  · cases e'
    have hlen : n = xs.length := by omega
    refine ⟨hlen, hb, hn, hm, cur, hh, by omega, fun i hi => ?_⟩
    have hc := congrArg (fun l => l[i]?) ht
    simp only [Nat.mul_one] at hc
    rw [List.getElem?_take_of_lt (by omega), List.getElem?_eq_getElem hi, Array.getElem?_toList] at hc
    rw [hc]; simp [List.getD, List.getElem?_eq_getElem hi]

/-- A heap's slice. -/
def StaleV (W : World) (base : Nat) (v : Value) (its : List It) : Prop :=
  (v = .slice none 0 0 ∧ its = []) ∨ ∃ g cap, v = .slice (some ⟨g, 0, none⟩) its.length cap ∧ base ≤ g ∧ HeapRow W g cap its
theorem ptr_getD (its : List It) (i : Nat) : ((its[i]?).map It.ptr).getD undef = (its.map It.ptr).getD i undef := by
  simp [List.getD]
theorem HeapRow.own {W : World} {g cap base : Nat} {its : List It} (h : HeapRow W g cap its) (hb : base ≤ g) : W.ownsRow base 100 1 (.slice (some ⟨g, 0, none⟩) its.length cap) its.length (its.map It.ptr) := by
  have := own_of_row (W := W) (g := g) (cap := cap) (e := 100) (base := base) (xs := its.map It.ptr) hb (by simpa using h.le) h.most (by simpa using h.row.congr (fun i _ => ptr_getD its i))
  simpa using this
theorem StaleV.own {W : World} {base : Nat} {v : Value} {its : List It} (h : StaleV W base v its) : W.ownsRow base 100 1 v its.length (its.map It.ptr) := by
  rcases h with ⟨rfl, rfl⟩ | ⟨g, cap, rfl, hb, h⟩
  · exact World.ownsRow_nil _ _ _ _
  · exact h.own hb
theorem StaleV.items {W : World} {base : Nat} {v : Value} {its : List It} (h : StaleV W base v its) : (∀ i x, its[i]? = some x → ItemAt W x i) ∧ (its.map It.blk).Nodup := by
  rcases h with ⟨rfl, rfl⟩ | ⟨g, cap, rfl, hb, h⟩
  · exact ⟨fun i x h => by simp at h, by simp⟩
  · exact ⟨h.items, h.nodup⟩
theorem StaleV.shape {W : World} {base : Nat} {v : Value} {its : List It} (h : StaleV W base v its) : ∃ A cap, v = .slice A its.length cap := by
  rcases h with ⟨rfl, rfl⟩ | ⟨g, cap, rfl, hb, h⟩
  · exact ⟨none, 0, rfl⟩
  · exact ⟨_, _, rfl⟩
theorem HeapRow.of_own {W : World} {g n cap base : Nat} {its : List It} (h : W.ownsRow base 100 1 (.slice (some ⟨g, 0, none⟩) n cap) n (its.map It.ptr)) (hi : ∀ i x, its[i]? = some x → ItemAt W x i) (hn : (its.map It.blk).Nodup) : HeapRow W g cap its ∧ base ≤ g ∧ n = its.length := by
  obtain ⟨h1, h2, h3, h4, h5⟩ := row_of_own h
  simp only [List.length_map] at h1 h5
  exact ⟨⟨h5.congr (fun i _ => (ptr_getD its i).symm), hi, hn, by omega, h4⟩, h2, h1⟩

theorem run_assert_item (v : Value) (w : World) : (Instr.typeAssert (.iface 100 v) 20 100 false).run Try.prog w = .ok v w := by kernel_rfl

theorem StaleV.own_ne {W : World} {base : Nat} {v : Value} {its : List It} (h : StaleV W base v its) {x : It} {a : Nat} (hx : ItemAt W x a) : v.ownBlock ≠ some x.blk := by
  rcases h with ⟨rfl, _⟩ | ⟨g, cap, rfl, _, h⟩
  · simp [Value.ownBlock]
  · intro e
    have e' : g = x.blk := by simpa [Value.ownBlock] using e
    obtain ⟨cur, h1, _⟩ := h.row
    unfold ItemAt at hx
    rw [← e', h1] at hx; cases hx

/-- A block in which one cell alone was set. -/
def SaBlk (w w' : World) (sa : Addr) (v : Value) : Prop := w'.heap[sa.block]? = (w.setCell sa v).heap[sa.block]?
theorem SaBlk.of {w w2 : World} {sa : Addr} (v : Value) (h : w2.heap[sa.block]? = w.heap[sa.block]?) : SaBlk w (w2.setCell sa v) sa v := by
  simp [SaBlk, World.setCell, Array.getElem?_modify, h]
theorem SaBlk.before {w w1 w2 : World} {sa : Addr} {v : Value} (h : w1.heap[sa.block]? = w.heap[sa.block]?) (k : SaBlk w1 w2 sa v) : SaBlk w w2 sa v := by
  unfold SaBlk at *
  rw [k]
  simp [World.setCell, Array.getElem?_modify, h]
theorem SaBlk.behind {w w1 w2 : World} {sa : Addr} {v : Value} (k : SaBlk w w1 sa v) (h : w2.heap[sa.block]? = w1.heap[sa.block]?) : SaBlk w w2 sa v := by
  unfold SaBlk at *
  rw [h, k]

/-- Behind Push. -/
theorem push_fin {base : Nat} {v v' : Value} {x : It} {a0 n g cap : Nat} {sa : Addr} {its : List It} {w w2 : World} {o : Obj} (h : StaleV w base v its) (hs : w.cell? sa = some v) (fs : w.frozen? sa = false)
    (hx : ItemAt w x a0) (hxn : x.blk ∉ its.map It.blk) (hsx : sa.block ≠ x.blk) (hsi : sa.block ∉ its.map It.blk) (hsb : sa.block < base) (hn : n = its.length) (hxb : base ≤ w.heap.size)
    (hv : v' = .slice (some ⟨g, 0, none⟩) (n + 1) cap)
    (hown : w2.ownsRow base 100 1 v' (n + 1) (its.map It.ptr ++ [x.ptr])) (hg : ((w.setCell ⟨x.blk, 11, none⟩ (.int .i64 n)).alloc o).grownBy w2 v.ownBlock) (hl : v.ownBlock = some g ∨ g = w.heap.size + 1) :
    ∃ v'', (w2.setCell sa v').cell? sa = some v'' ∧ (w2.setCell sa v').frozen? sa = false ∧ StaleV (w2.setCell sa v') base v'' (its ++ [x]) ∧ ModS (fun k => k = sa.block ∨ k = x.blk ∨ v.ownBlock = some k) w (w2.setCell sa v') ∧ (∀ k, v''.ownBlock = some k → v.ownBlock = some k ∨ w.heap.size ≤ k) ∧ SaBlk w (w2.setCell sa v') sa v'' := by
  have hne := h.own_ne hx
  have hxl := hx.lt
  -- a block that is none of these is kept in w2
  have keep : ∀ k, k < w.heap.size → k ≠ x.blk → v.ownBlock ≠ some k → w2.heap[k]? = w.heap[k]? := fun k hk h1 h2 =>
    (hg.block k (by simp [World.setCell]; omega) (fun e => h2 e.symm)).trans ((Below.heap_alloc _ o k (by simpa [World.setCell] using hk)).trans (Below.heap_setCell _ _ _ _ h1))
  have hxw2 : ItemAt w2 x n := by
    refine ItemAt.same (W := w.setCell ⟨x.blk, 11, none⟩ (.int .i64 n)) (hx.setAt n) ?_
    exact (hg.block x.blk (by simp [World.setCell]; omega) (fun e => hne e.symm)).trans (Below.heap_alloc _ o x.blk (by simpa [World.setCell] using hxl))
  have hsv : v.ownBlock ≠ some sa.block := by
    intro e
    have := (own_cells h.own _ e).1; omega
  have hsl := blk_of_cell hs
  have hs2 : w2.cell? sa = some v := (World.cell?_of_block (keep _ hsl hsx hsv)).trans hs
  have hitems := h.items
  have hrow := HeapRow.of_own (its := its ++ [x]) (g := g) (n := n + 1) (cap := cap) (W := w2.setCell sa v') (base := base)
    (by rw [List.map_append, ← hv]; exact own_set hown hsb _)
    (fun i y hy => by
      rw [List.getElem?_append] at hy
      split at hy
      · rename_i hi
        have hy' := hitems.1 i y hy
        have hyb : y.blk ≠ x.blk := fun e => hxn (by rw [← e]; exact mem_blk hy)
        have hys : y.blk ≠ sa.block := fun e => hsi (by rw [← e]; exact mem_blk hy)
        exact (hy'.same (keep _ hy'.lt hyb (h.own_ne hy'))).same (Below.heap_setCell _ _ _ _ hys)
      · rename_i hi
        have e : i = n := by
          have h1 := (List.getElem?_eq_some_iff.1 hy).1
          simp at h1; omega
        subst e
        rw [hn, Nat.sub_self] at hy
        cases hy
        exact hxw2.same (Below.heap_setCell _ _ _ _ (fun e => hsx e.symm)))
    (by
      rw [List.map_append, List.map_cons, List.map_nil, List.nodup_append]
      refine ⟨hitems.2, by simp, ?_⟩
      intro a ha b hb
      simp only [List.mem_singleton] at hb
      subst hb
      exact fun e => hxn (e ▸ ha))
  refine ⟨v', cell_set_same hs2, ?_, ?_, ?_, ?_, SaBlk.of v' (keep _ hsl hsx hsv)⟩
  · rw [World.frozen?_setCell, World.frozen?_of_block (keep _ hsl hsx hsv)]; exact fs
  · right
    exact ⟨g, cap, by rw [hv, hrow.2.2], hrow.2.1, hrow.1⟩
  · refine ModS.set ?_ (.inl rfl) _
    exact (((ModS.refl _ w).set (.inr (.inl rfl)) _).alloc o).grown hg (fun j hj => .inr (.inr hj))
  · intro k hk
    rw [hv] at hk
    have : g = k := by simpa [Value.ownBlock] using hk
    subst this
    rcases hl with h | h
    · exact .inl h
    · right; omega

set_option maxRecDepth 100000 in
set_option maxHeartbeats 2000000 in
theorem hpush_any (base : Nat) (v : Value) (x : It) (a0 : Nat) (sa : Addr) (its : List It) (w : World) (h : StaleV w base v its) (hs : w.cell? sa = some v) (fs : w.frozen? sa = false)
    (hx : ItemAt w x a0) (hxn : x.blk ∉ its.map It.blk) (hsx : sa.block ≠ x.blk) (hsi : sa.block ∉ its.map It.blk) (hsb : sa.block < base) (hxb : base ≤ w.heap.size) (hlen : its.length ≤ 1099511627776) :
    Calls Try.prog 161 #[.pointer (some sa), .iface 100 x.ptr] w fun e w' => e = .returned (.tuple #[]) ∧
      ∃ v', w'.cell? sa = some v' ∧ w'.frozen? sa = false ∧ StaleV w' base v' (its ++ [x]) ∧ ModS (fun k => k = sa.block ∨ k = x.blk ∨ v.ownBlock = some k) w w' ∧ (∀ k, v'.ownBlock = some k → v.ownBlock = some k ∨ w.heap.size ≤ k) ∧ SaBlk w w' sa v' := by
  obtain ⟨i0, hi, hz0, hz1, hz2⟩ := info_parts info_item
  obtain ⟨A, cap, rfl⟩ := h.shape
  have c1 := hx.cell (o := 11) rfl
  have d1 := hx.free 11
  have hlt := hx.lt
  have H := Lib.hid h
  have Hx := Lib.hid hx
  have Hne := Lib.hid (h.own_ne hx)
  have Hs := Lib.hid hs
  have Fs := Lib.hid fs
  clear h hx
  generalize hn : its.length = n at *
  have hs1 : (w.setCell ⟨x.blk, 11, none⟩ (.int .i64 n)).cell? sa = some (.slice A n cap) := (cell_set_ne hsx).trans hs
  have Hn := Lib.hid hn
  have hown0 := H.out.own
  have hown1 := ownsRow_setCell_other hown0 (a := ⟨x.blk, 11, none⟩) Hne.out (.int .i64 n)
  rw [hn] at hown1
  have Hown := Lib.hid (hown1.alloc (.cells #[x.ptr] 100))
  clear hn hown0 hown1
  have hta := run_assert_item
  unfold It.ptr at *
  have hsz1 : (w.setCell ⟨x.blk, 11, none⟩ (.int .i64 n)).heap.size = w.heap.size := by simp [World.setCell]
  have Hsz := Lib.hid hsz1
  clear hsz1
  have q3 : n + 1 ≤ maxLen := by unfold maxLen; omega
  have q4 : (n + 1) * 8 ≤ 140737488355328 := by omega
  go_enter Try.func161, Try.ntmps161
  go_wp2_with (at_builtin; refine wpList_append_lies _ rfl _ _ 89 rfl base 100 i0 (.pointer none) 1 8 Try.underlying89 hi hz0 hz1 hz2 rfl (by decide) _ _ _ rfl Hown.out ⟨w.heap.size, 0, none⟩ 1 1 [.pointer (some ⟨x.blk, 0, none⟩)] rfl rfl ?c1 ?c2 (by omega) q3 q4 ?c5 _ rfl ?_)
  case c1 => have := cell_one_new (w.setCell ⟨x.blk, 11, none⟩ (.int .i64 n)) (.pointer (some ⟨x.blk, 0, none⟩)) 100; rw [Hsz.out] at this; exact this
  case c2 => intro u hu; simp only [List.mem_singleton] at hu; subst hu; rfl
  case c5 => rw [World.size_alloc, Hsz.out]; omega
  intro g cap' w2 hown2 hgrow2 hlies hlt2
  have hnsa : (Value.slice A n cap).ownBlock ≠ some sa.block := by
    intro e
    have := (own_cells Hown.out _ e).1; omega
  have hs2 := (grown_cell hgrow2 (alloc_cell hs1 _).1 hnsa).1
  have fs2 : w2.frozen? sa = false := (grown_cell hgrow2 (alloc_cell hs1 _).1 hnsa).2.trans ((alloc_cell hs1 _).2.trans (frozen_set.trans Fs.out))
  have Hown2 := Lib.hid hown2
  have Hgrow2 := Lib.hid hgrow2
  have Hlies := Lib.hid hlies
  clear hown2 hgrow2 hlies hnsa
  go_wp2
  go_end0
  exact ⟨rfl, push_fin H.out Hs.out Fs.out Hx.out hxn hsx hsi hsb Hn.out.symm hxb rfl Hown2.out Hgrow2.out Hlies.out⟩

theorem HeapRow.init {W : World} {g cap : Nat} {its : List It} {x : It} (h : HeapRow W g cap (its ++ [x])) : HeapRow W g cap its := by
  obtain ⟨⟨cur, c1, c2, c3⟩, hi, hn, hl, hm⟩ := h
  refine ⟨⟨cur, c1, c2, fun i hi' => ?_⟩, fun i y hy => hi i y ?_, ?_, ?_, hm⟩
  · rw [c3 i (by simp; omega)]; dsimp only; rw [List.getElem?_append_left hi']
  · have := (List.getElem?_eq_some_iff.1 hy).1
    rw [List.getElem?_append_left this]; exact hy
  · rw [List.map_append] at hn; exact (List.nodup_append.1 hn).1
  · simp at hl; omega
theorem HeapRow.same {W W' : World} {g cap : Nat} {its : List It} (h : HeapRow W g cap its) (hk : ∀ k, (k = g ∨ k ∈ its.map It.blk) → W'.heap[k]? = W.heap[k]?) : HeapRow W' g cap its := by
  obtain ⟨⟨cur, c1, c2, c3⟩, hi, hn, hl, hm⟩ := h
  exact ⟨⟨cur, (hk g (.inl rfl)).trans c1, c2, c3⟩, fun i y hy => (hi i y hy).same (hk _ (.inr (mem_blk hy))), hn, hl, hm⟩

set_option maxRecDepth 100000 in
set_option maxHeartbeats 2000000 in
theorem hpop_any (base g cap : Nat) (sa : Addr) (its : List It) (x : It) (w : World) (h : HeapRow w g cap (its ++ [x])) (hb : base ≤ g) (hs : w.cell? sa = some (.slice (some ⟨g, 0, none⟩) (its.length + 1) cap)) (fs : w.frozen? sa = false)
    (hsg : sa.block ≠ g) (hsx : sa.block ∉ (its ++ [x]).map It.blk) :
    Calls Try.prog 160 #[.pointer (some sa)] w fun e w' => e = .returned (.iface 100 x.ptr) ∧
      w'.cell? sa = some (.slice (some ⟨g, 0, none⟩) its.length cap) ∧ w'.frozen? sa = false ∧ HeapRow w' g cap its ∧ ModS (fun k => k = sa.block) w w' ∧ SaBlk w w' sa (.slice (some ⟨g, 0, none⟩) its.length cap) := by
  have hx : (its ++ [x])[its.length]? = some x := by simp
  have r1 := (h.rowAt hx).1
  have hmost : its.length + 1 ≤ 9223372036854775807 := by have := h.le; have h2 := h.most; unfold maxLen at h2; simp at this; omega
  have hcap : its.length ≤ cap := by have := h.le; simp at this; omega
  have H := Lib.hid h
  have Hs := Lib.hid hs
  clear h hx
  generalize hn : its.length = n at *
  have Hn := Lib.hid hn
  clear hn
  unfold It.ptr
  go_enter Try.func160, Try.ntmps160
  go_wp2
  go_ret
  refine ⟨rfl, cell_set_same Hs.out, frozen_set.trans fs, ?_, (ModS.refl (fun k => k = sa.block) w).set (p := sa) rfl _, SaBlk.of _ rfl⟩
  have hinit := H.out.init
  exact hinit.same (fun k hk => Below.heap_setCell _ _ _ _ (fun e => hk.elim (fun h1 => hsg (by rw [← e]; exact h1)) (fun h2 => hsx (by rw [← e, List.map_append]; exact List.mem_append.2 (.inl h2)))))
end Go.Proofs.Ytihfapnipifiiaa
/- The walks of container/heap's Push and Remove. -/
namespace Go.Proofs.Ytihfapnipifiiaa
open Go Go.RowKit Go.Shelf

theorem upL_perm : ∀ (j : Nat) (its : List It), (upL its j).Perm its := by
  intro j
  induction j using Nat.strongRecOn with
  | _ j ih =>
    intro its
    by_cases h0 : j = 0
    · subst h0; rw [upL_zero]
    · by_cases h : untilAt its j < untilAt its ((j - 1) / 2)
      · rw [upL_go h0 h]; exact (ih _ (by omega) _).trans (swapL_perm _ _ _)
      · rw [upL_stop h]
theorem downL_perm : ∀ (d i n : Nat) (its : List It), n - i = d → (downL its i n).1.Perm its := by
  intro d
  induction d using Nat.strongRecOn with
  | _ d ih =>
    intro i n its hd
    by_cases h0 : n ≤ 2 * i + 1
    · rw [downL_end h0]
    · by_cases h : untilAt its (childL its i n) < untilAt its i
      · have := childL_gt its i n
        rw [downL_go h0 h]; exact (ih (n - childL its i n) (by omega) _ _ _ rfl).trans (swapL_perm _ _ _)
      · rw [downL_stop h]

theorem ModS.comp {S T : Nat → Prop} {a b c : World} (h : ModS S a b) (k : ModS T b c) (hT : ∀ i, i < a.heap.size → T i → S i) : ModS S a c :=
  ⟨k.os.trans h.os, k.tape.trans h.tape, k.output.trans h.output, Nat.le_trans h.size k.size, fun i hi hn => (k.block i (Nat.lt_of_lt_of_le hi h.size) (fun ht => hn (hT i hi ht))).trans (h.block i hi hn)⟩

set_option maxRecDepth 100000 in
theorem method_ptr {name : String} {f : Nat} (hf : (Try.t106.methods.find? (fun x => x.name == name)).map (fun m => (m.path, m.func)) = some (#[], some (f, true))) (sa : Addr) (w : World) :
    (method 319 106 (.pointer (some sa)) name).run Try.prog w = .ok (f, .pointer (some sa)) w := by
  unfold method
  cases hm : Try.t106.methods.find? (fun x => x.name == name) with
  | none => rw [hm] at hf; cases hf
  | some m =>
    rw [hm] at hf
    simp only [Option.map_some, Option.some.injEq, Prod.mk.injEq] at hf
    simp [go_sem, hm, hf.1, hf.2, follow, receiverAt, Place.get, wrapnil]

/-- What holds of a heap's slice in memory, with its cell. -/
structure Stale (W : World) (base : Nat) (sa : Addr) (v : Value) (its : List It) : Prop where
  cell : W.cell? sa = some v
  free : W.frozen? sa = false
  st : StaleV W base v its
  apart : sa.block ∉ its.map It.blk
  low : sa.block < base
/-- The blocks that a heap's slice may turn. -/
def staleS (sa : Addr) (v : Value) (its : List It) (k : Nat) : Prop := k = sa.block ∨ v.ownBlock = some k ∨ k ∈ its.map It.blk

set_option maxRecDepth 100000 in
set_option maxHeartbeats 2000000 in
theorem heapPush_any (base : Nat) (v : Value) (x : It) (a0 : Nat) (sa : Addr) (its : List It) (w : World) (h : Stale w base sa v its)
    (hx : ItemAt w x a0) (hxn : x.blk ∉ its.map It.blk) (hsx : sa.block ≠ x.blk) (hxb : base ≤ w.heap.size) (hlen : its.length ≤ 1099511627776) :
    Calls Try.prog 58 #[.iface 106 (.pointer (some sa)), .iface 100 x.ptr] w fun e w' => e = .returned (.tuple #[]) ∧
      ∃ v', Stale w' base sa v' (upL (its ++ [x]) its.length) ∧ ModS (staleS sa v (its ++ [x])) w w' ∧ (∀ k, v'.ownBlock = some k → v.ownBlock = some k ∨ w.heap.size ≤ k) ∧ SaBlk w w' sa v' := by
  obtain ⟨h1, h2, h3, h4, h5⟩ := h
  have mp := method_ptr find_push sa
  go_enter Try.func58, Try.ntmps58
  go_wp2_with fail
  refine (hpush_any base v x a0 sa its w h3 h1 h2 hx hxn hsx h4 h5 hxb hlen).mono ?_
  rintro e w1 ⟨rfl, v', c1, f1, st1, m1, o1, s1⟩
  have hne : (its ++ [x]) ≠ [] := by simp
  obtain ⟨g, cap, rfl, hb, hr⟩ : ∃ g cap, v' = .slice (some ⟨g, 0, none⟩) (its ++ [x]).length cap ∧ base ≤ g ∧ HeapRow w1 g cap (its ++ [x]) := by
    rcases st1 with ⟨_, h⟩ | h
    · exact absurd h hne
    · exact h
  have hl : (its ++ [x]).length = its.length + 1 := by simp
  have hapart : sa.block ∉ (its ++ [x]).map It.blk := by
    rw [List.map_append, List.mem_append]; rintro (h | h)
    · exact h4 h
    · simp at h; exact hsx h
  have ml := method_val find_len sa _ _ _ w1 c1
  have HR := Lib.hid hr
  have C1 := Lib.hid c1
  have F1 := Lib.hid f1
  have M1 := Lib.hid m1
  have O1 := Lib.hid o1
  have S1 := Lib.hid s1
  clear hr st1 m1 o1 f1 h1 h2 h3 c1 s1
  rw [hl] at ml
  go_wp2_with fail
  refine (hlen_any _ _ _ _).mono ?_
  rintro e w2 ⟨rfl, rfl⟩
  go_wp2_with fail
  rw [hl] at C1
  refine (hup_any g cap its.length sa (its ++ [x]) w1 HR.out (by rw [hl]; omega) (by rw [hl]; exact C1.out) (by
    rintro (h | h)
    · omega
    · exact hapart h)).mono ?_
  rintro e w2 ⟨rfl, h2, m2⟩
  go_wp2
  go_end0
  have hp := upL_perm its.length (its ++ [x])
  have hnS : ¬ heapS g (its ++ [x]) sa.block := by
    rintro (h | h)
    · omega
    · exact hapart h
  refine ⟨rfl, .slice (some ⟨g, 0, none⟩) (its.length + 1) cap, ⟨m2.cell C1.out hnS, (m2.frozen (blk_of_cell C1.out) hnS).trans F1.out, .inr ⟨g, cap, by rw [hp.length_eq, hl], hb, h2⟩, ?_, h5⟩, ?_, ?_, ?_⟩
  · intro hm; exact hapart (((hp.map It.blk).mem_iff).1 hm)
  · refine ModS.comp (M1.out.mono ?_) m2 ?_
    · rintro k (h | h | h)
      · exact .inl h
      · exact .inr (.inr (by rw [List.map_append, List.mem_append]; right; simp [h]))
      · exact .inr (.inl h)
    · rintro k hk (h | h)
      · subst h
        rcases O1.out k rfl with h | h
        · exact .inr (.inl h)
        · omega
      · exact .inr (.inr h)
  · rw [hl] at O1; exact O1.out
  · rw [hl] at S1; exact S1.out.behind (m2.block _ (blk_of_cell C1.out) hnS)
end Go.Proofs.Ytihfapnipifiiaa
/- The walk of container/heap's Remove. -/
namespace Go.Proofs.Ytihfapnipifiiaa
open Go Go.RowKit Go.Shelf

/-- What 'Remove' makes of a row ahead of its last step. -/
def remL (its : List It) (i : Nat) : List It :=
  if i = its.length - 1 then its
  else if i < (downL (swapL its i (its.length - 1)) i (its.length - 1)).2 then (downL (swapL its i (its.length - 1)) i (its.length - 1)).1
  else upL (downL (swapL its i (its.length - 1)) i (its.length - 1)).1 i
theorem remL_perm (its : List It) (i : Nat) : (remL its i).Perm its := by
  unfold remL
  split
  · exact List.Perm.refl _
  · split
    · exact (downL_perm _ _ _ _ rfl).trans (swapL_perm _ _ _)
    · exact (upL_perm _ _).trans ((downL_perm _ _ _ _ rfl).trans (swapL_perm _ _ _))

theorem split_last {l : List It} (h : 0 < l.length) : ∃ a x, l = a ++ [x] := ⟨l.dropLast, l.getLast (by intro e; rw [e] at h; simp at h), (List.dropLast_concat_getLast _).symm⟩

set_option maxRecDepth 100000 in
set_option maxHeartbeats 1000000 in
theorem heapRemove_any (base : Nat) (v : Value) (i : Nat) (sa : Addr) (its : List It) (w : World) (h : Stale w base sa v its) (hi : i < its.length) (hlen : its.length ≤ 1099511627776) :
    Calls Try.prog 93 #[.iface 106 (.pointer (some sa)), .int .i64 i] w fun e w' => (∃ u, e = .returned u) ∧
      ∃ v', Stale w' base sa v' (remL its i).dropLast ∧ ModS (staleS sa v its) w w' ∧ v'.ownBlock = v.ownBlock ∧ SaBlk w w' sa v' := by
  obtain ⟨h1, h2, h3, h4, h5⟩ := h
  obtain ⟨g, cap, rfl, hb, hr⟩ : ∃ g cap, v = .slice (some ⟨g, 0, none⟩) its.length cap ∧ base ≤ g ∧ HeapRow w g cap its := by
    rcases h3 with ⟨_, h⟩ | h
    · subst h; simp at hi
    · exact h
  have ml := method_val find_len sa _ _ _ w h1
  have hnS : ¬ heapS g its sa.block := by
    rintro (h | h)
    · omega
    · exact h4 h
  obtain ⟨n, hn⟩ : ∃ n, n = its.length - 1 := ⟨_, rfl⟩
  have hn1 : its.length = n + 1 := by omega
  -- the last step, from whatever row stands there
  have last : ∀ (xs : List It) (wr : World), xs.Perm its → HeapRow wr g cap xs → ModS (heapS g its) w wr → xs = remL its i →
      Calls Try.prog 160 #[.pointer (some sa)] wr fun e w' => (∃ u, e = .returned u) ∧ ∃ v', Stale w' base sa v' (remL its i).dropLast ∧ ModS (staleS sa (.slice (some ⟨g, 0, none⟩) its.length cap) its) w w' ∧ v'.ownBlock = (Value.slice (some ⟨g, 0, none⟩) its.length cap).ownBlock ∧ SaBlk w w' sa v' := by
    intro xs wr hp hr' hm hx
    obtain ⟨ys, y, rfl⟩ := split_last (l := xs) (by rw [hp.length_eq]; omega)
    have hl : its.length = ys.length + 1 := by rw [← hp.length_eq]; simp
    have hmem : sa.block ∉ (ys ++ [y]).map It.blk := fun h => h4 (((hp.map It.blk).mem_iff).1 h)
    refine (hpop_any base g cap sa ys y wr hr' hb ((hm.cell h1 hnS).trans (by rw [hl])) ((hm.frozen (blk_of_cell h1) hnS).trans h2) (by omega) hmem).mono ?_
    rintro e w' ⟨rfl, c, f, hr2, m2, sb⟩
    refine ⟨⟨_, rfl⟩, _, ⟨c, f, .inr ⟨g, cap, ?_, hb, ?_⟩, ?_, h5⟩, ?_, rfl, sb.before (hm.block _ (blk_of_cell h1) hnS)⟩
    · rw [← hx]; simp
    · rw [← hx]; simpa using hr2
    · rw [← hx]; simp only [List.dropLast_concat]; intro h; apply hmem; rw [List.map_append, List.mem_append]; exact .inl h
    · refine (hm.mono ?_).trans (m2.mono ?_)
      · rintro k (h | h)
        · exact .inr (.inl (by rw [h]; rfl))
        · exact .inr (.inr h)
      · rintro k h; exact .inl h
  have Last := Lib.hid last
  have HR := Lib.hid hr
  have H1 := Lib.hid h1
  have Hn := Lib.hid hn
  have Hn1 := Lib.hid hn1
  have mp := method_ptr find_pop sa
  have hnb : n ≤ 1099511627776 := by omega
  have hib : i ≤ 1099511627776 := by omega
  rw [hn1] at ml
  clear last hr h3 hn
  go_enter Try.func93, Try.ntmps93
  clear hn1
  go_wp2_with fail
  refine (hlen_any _ _ _ _).mono ?_
  rintro e w1 ⟨rfl, rfl⟩
  by_cases hin : i = n
  · subst hin
    go_wp2_with fail
    refine (Last.out its _ (List.Perm.refl _) HR.out (ModS.refl _ _) (by unfold remL; rw [if_pos Hn.out])).mono ?_
    rintro e w2 ⟨⟨u, rfl⟩, v', s2, m2, o2, sb2⟩
    go_wp2
    go_ret
    exact ⟨⟨_, rfl⟩, v', s2, m2, o2, sb2⟩
  · have hb1 : ((n : Int) != (i : Int)) = true := by rw [bne_iff_ne]; omega
    have ms := method_val find_swap sa _ _ _ w H1.out
    go_wp2_with fail
    refine (hswap_any g cap i n its w HR.out hi (by have := Hn1.out; omega) hin).mono ?_
    rintro e w2 ⟨rfl, r2, m2⟩
    have hp2 := swapL_perm its i n
    have c2 := m2.cell H1.out hnS
    have R2 := Lib.hid r2
    have M2 := Lib.hid m2
    clear r2 m2
    generalize hX : swapL its i n = xs at *
    have HX := Lib.hid hX
    have hS2 : ¬ heapS g xs sa.block := fun h => hnS (heapS_perm hp2 _ h)
    have hxl : xs.length = its.length := hp2.length_eq
    have Hxl := Lib.hid hxl
    clear hX hxl
    go_wp2_with fail
    refine (hdown_any g cap i n sa xs w2 R2.out (by rw [Hxl.out, Hn1.out]; omega) (by rw [Hxl.out]; exact hi) (by rw [Hxl.out]; exact hlen) (by rw [Hxl.out]; exact c2) hS2).mono ?_
    rintro e w3 ⟨rfl, r3, m3⟩
    have hp3 := (downL_perm (n - i) i n xs rfl).trans hp2
    have hm3 : ModS (heapS g its) w w3 := M2.out.trans (m3.mono (fun k hk => heapS_perm hp2 k hk))
    have c3 := hm3.cell H1.out hnS
    generalize hY : (downL xs i n).1 = ys at *
    generalize hK : (downL xs i n).2 = k at *
    have HY := Lib.hid hY
    have HK := Lib.hid hK
    have R3 := Lib.hid r3
    clear hY hK r3 m3
    by_cases hik : i < k
    · have hd : decide (i < k) = true := decide_eq_true hik
      have Hik := Lib.hid hik
      clear hik
      go_wp2_with fail
      refine (Last.out ys w3 hp3 R3.out hm3 (by unfold remL; rw [if_neg (by rw [← Hn.out]; exact hin), ← Hn.out, HX.out, HK.out, if_pos Hik.out, HY.out])).mono ?_
      rintro e w4 ⟨⟨u, rfl⟩, v', s4, m4, o4, sb4⟩
      go_wp2
      go_ret
      exact ⟨⟨_, rfl⟩, v', s4, m4, o4, sb4⟩
    · have hd : decide (i < k) = false := decide_eq_false hik
      have Hik := Lib.hid hik
      clear hik
      have hyl : ys.length = its.length := hp3.length_eq
      have Hyl := Lib.hid hyl
      have hS3 : ¬ heapS g ys sa.block := fun h => hnS (heapS_perm hp3 _ h)
      clear hyl
      go_wp2_with fail
      refine (hup_any g cap i sa ys w3 R3.out (by rw [Hyl.out]; exact hi) (by rw [Hyl.out]; exact c3) hS3).mono ?_
      rintro e w4 ⟨rfl, r4, m4⟩
      have hp4 := (upL_perm i ys).trans hp3
      have hm4 : ModS (heapS g its) w w4 := hm3.trans (m4.mono (fun k hk => heapS_perm hp3 k hk))
      have R4 := Lib.hid r4
      clear r4 m4
      go_wp2_with fail
      refine (Last.out (upL ys i) w4 hp4 R4.out hm4 (by unfold remL; rw [if_neg (by rw [← Hn.out]; exact hin), ← Hn.out, HX.out, HK.out, if_neg (by have := Hik.out; omega), HY.out])).mono ?_
      rintro e w5 ⟨⟨u, rfl⟩, v', s5, m5, o5⟩
      go_wp2
      go_ret
      exact ⟨⟨_, rfl⟩, v', s5, m5, o5⟩
end Go.Proofs.Ytihfapnipifiiaa
