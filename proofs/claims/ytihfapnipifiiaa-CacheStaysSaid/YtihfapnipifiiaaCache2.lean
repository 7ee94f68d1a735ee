/- The walks of cache.New, Len, byUse, cmp.Compare, slices.MinFunc. -/
import Derived.Test.YtihfapnipifiiaaCache1
namespace Go.Proofs.Ytihfapnipifiiaa
open Go Go.RowKit Go.Shelf

/-- A cache with nothing in it. -/
def Ca.new (cb : Nat) (most : Int) : Ca := ⟨cb, most, .map none, .slice none 0 0, 0, [], []⟩
theorem Ca.new_at {W : World} {cb : Nat} {most : Int} (h : W.heap[cb]? = some (.cells #[.int .i64 most, .map none, .slice none 0 0, .int .i64 0] 91 (0, 0))) : CaAt W (Ca.new cb most) where
  block := h
  map := .inl ⟨rfl, rfl⟩
  stale := .inl ⟨rfl, rfl⟩
  items := fun x hx => by cases hx
  recs := fun x hx => by cases hx
  heap := fun k _ h => by cases h
  perm := List.Perm.refl _
  sorted := List.Pairwise.nil
  used := fun x hx => by cases hx
  oks := fun x hx => by cases hx
  few := Nat.zero_le _
def capOf (n : Int) : Int := if n < 1 then 1 else if 100000 < n then 100000 else n
theorem new_any (n : Int) (w : World) :
    Calls Try.prog 19 #[.int .i64 n] w fun e w' => e = .returned (.pointer (some ⟨w.heap.size, 0, none⟩)) ∧ CaAt w' (Ca.new w.heap.size (capOf n)) ∧ Below w.heap.size w w' := by
  have fin : ∀ W, W = w.alloc (.cells #[.int .i64 (capOf n), .map none, .slice none 0 0, .int .i64 0] 91) → CaAt W (Ca.new w.heap.size (capOf n)) ∧ Below w.heap.size w W := by
    rintro W rfl
    exact ⟨Ca.new_at (heap_alloc_new w _), (Below.refl _ w).alloc (Nat.le_refl _) _⟩
  by_cases h1 : n < 1
  · have e : capOf n = 1 := by unfold capOf; rw [if_pos h1]
    rw [e] at fin ⊢
    have Fin := Lib.hid fin
    have H1 := Lib.hid h1
    have m1 : max n 1 = 1 := by omega
    clear fin h1
    go_enter Try.func19, Try.ntmps19
    go_wp2
    go_ret
    exact ⟨rfl, Fin.out _ rfl⟩
  · by_cases h2 : 100000 < n
    · have e : capOf n = 100000 := by unfold capOf; rw [if_neg h1, if_pos h2]
      rw [e] at fin ⊢
      have Fin := Lib.hid fin
      have m1 : max n 1 = n := by omega
      have m2 : min n 100000 = 100000 := by omega
      clear fin e
      go_enter Try.func19, Try.ntmps19
      go_wp2
      go_ret
      exact ⟨rfl, Fin.out _ rfl⟩
    · have e : capOf n = n := by unfold capOf; rw [if_neg h1, if_neg h2]
      rw [e] at fin ⊢
      have Fin := Lib.hid fin
      have m1 : max n 1 = n := by omega
      have m2 : min n 100000 = n := by omega
      clear fin e
      go_enter Try.func19, Try.ntmps19
      go_wp2
      go_ret
      exact ⟨rfl, Fin.out _ rfl⟩
theorem len_any (c : Ca) (w : World) (h : CaAt w c) :
    Calls Try.prog 23 #[.pointer (some ⟨c.cb, 0, none⟩)] w fun e w' => e = .returned (.int .i64 c.its.length) ∧ w = w' := by
  obtain ⟨⟨c0, c1, c2, c3⟩, f0⟩ := h.cells
  rcases h.map with ⟨e1, e2⟩ | ⟨mb, e1, _, hm⟩
  · rw [e1] at c1
    rw [e2]
    clear h e1 e2 c0 c2 c3 f0
    go_enter Try.func23, Try.ntmps23
    go_wp2
    go_ret
    exact ⟨rfl, rfl⟩
  · rw [e1] at c1
    have hl := map_len hm 3
    clear h e1 c0 c2 c3 f0 hm
    go_enter Try.func23, Try.ntmps23
    go_wp2
    go_ret
    exact ⟨rfl, rfl⟩
theorem len_nil (w : World) :
    Calls Try.prog 23 #[.pointer none] w fun e w' => e = .returned (.int .i64 0) ∧ w = w' := by
  go_enter Try.func23, Try.ntmps23
  go_wp2
  go_ret
  exact ⟨rfl, rfl⟩

def cmpI (a b : Int) : Int := if a < b then -1 else if b < a then 1 else 0
theorem isnan_any (a : Int) (w : World) :
    Calls Try.prog 115 #[.int .i64 a] w fun e w' => e = .returned (.bool false) ∧ w = w' := by
  have h : (a != a) = false := by simp
  go_enter Try.func115, Try.ntmps115
  go_wp2
  go_ret
  exact ⟨rfl, rfl⟩
theorem compare_any (a b : Int) (w : World) :
    Calls Try.prog 96 #[.int .i64 a, .int .i64 b] w fun e w' => e = .returned (.int .i64 (cmpI a b)) ∧ w = w' := by
  have lt : a < b → cmpI a b = -1 := fun h => by unfold cmpI; rw [if_pos h]
  have gt : b < a → cmpI a b = 1 := fun h => by unfold cmpI; rw [if_neg (by omega), if_pos h]
  have eq : ¬ a < b → ¬ b < a → cmpI a b = 0 := fun h k => by unfold cmpI; rw [if_neg h, if_neg k]
  have Lt := Lib.hid lt
  have Gt := Lib.hid gt
  have Eq := Lib.hid eq
  clear lt gt eq
  go_enter Try.func96, Try.ntmps96
  go_wp2_with fail
  refine (isnan_any _ _).mono ?_
  rintro e w1 ⟨rfl, rfl⟩
  go_wp2_with fail
  refine (isnan_any _ _).mono ?_
  rintro e w1 ⟨rfl, rfl⟩
  by_cases h1 : a < b
  · have q := Lt.out h1
    go_wp2
    go_ret
    exact ⟨by rw [q]; rfl, rfl⟩
  · by_cases h2 : b < a
    · have q := Gt.out (by omega)
      go_wp2
      go_ret
      exact ⟨by rw [q]; rfl, rfl⟩
    · have q := Eq.out (by omega) (by omega)
      go_wp2
      go_ret
      exact ⟨by rw [q]; rfl, rfl⟩
set_option maxRecDepth 100000 in
theorem byUse_any (a b : Nat) (ua ub : Int) (w : World) (ha : w.cell? ⟨a, 10, none⟩ = some (.int .i64 ua)) (hb : w.cell? ⟨b, 10, none⟩ = some (.int .i64 ub)) :
    Calls Try.prog 60 #[.pointer (some ⟨a, 0, none⟩), .pointer (some ⟨b, 0, none⟩)] w fun e w' => e = .returned (.int .i64 (cmpI ua ub)) ∧ Below w.heap.size w w' := by
  go_enter Try.func60, Try.ntmps60
  go_wp2_with fail
  go_still_tail 8, (by kernel_rfl)
  change wpList _ _ _ _ _ w.drew
  go_wp2_with fail
  refine (compare_any _ _ _).mono ?_
  rintro e w1 ⟨rfl, rfl⟩
  go_wp2
  go_ret
  exact ⟨rfl, (Below.refl _ w).drew⟩
end Go.Proofs.Ytihfapnipifiiaa
