/- Plain laws of a heap: what 'up', 'down' and 'Remove' make of a row keeps the heap's order. -/
import Derived.Test.YtihfapnipifiiaaHeap6
namespace Go.Proofs.Ytihfapnipifiiaa
open Go Go.RowKit Go.Shelf

theorem swapL_get {its : List It} {i j : Nat} (hi : i < its.length) (hj : j < its.length) (hij : i ≠ j) (k : Nat) :
    (swapL its i j)[k]? = if k = i then its[j]? else if k = j then its[i]? else its[k]? := by
  obtain ⟨x, hx⟩ := get_of_lt hi
  obtain ⟨y, hy⟩ := get_of_lt hj
  rw [swapL_eq hx hy]
  by_cases h1 : k = i
  · subst h1
    rw [if_pos rfl, List.getElem?_set_ne (fun e => hij e.symm), List.getElem?_set_self hi, hy]
  · rw [if_neg h1]
    by_cases h2 : k = j
    · subst h2
      rw [if_pos rfl, List.getElem?_set_self (by rw [List.length_set]; exact hj), hx]
    · rw [if_neg h2, List.getElem?_set_ne (fun e => h2 e.symm), List.getElem?_set_ne (fun e => h1 e.symm)]
theorem swapL_until {its : List It} {i j : Nat} (hi : i < its.length) (hj : j < its.length) (hij : i ≠ j) (k : Nat) :
    untilAt (swapL its i j) k = if k = i then untilAt its j else if k = j then untilAt its i else untilAt its k := by
  unfold untilAt
  rw [swapL_get hi hj hij k]
  split
  · rfl
  · split <;> rfl

/-- The first n of a row are a heap. -/
def HeapN (its : List It) (n : Nat) : Prop := ∀ k, 0 < k → k < n → untilAt its ((k - 1) / 2) ≤ untilAt its k
/-- .. but one may be too small. -/
def UpInv (its : List It) (n j : Nat) : Prop :=
  (∀ k, 0 < k → k < n → k ≠ j → untilAt its ((k - 1) / 2) ≤ untilAt its k) ∧ (∀ k, 0 < k → k < n → (k - 1) / 2 = j → 0 < j → untilAt its ((j - 1) / 2) ≤ untilAt its k)
theorem upL_far : ∀ (j : Nat) (its : List It) (k : Nat), j < its.length → j < k → (upL its j)[k]? = its[k]? := by
  intro j
  induction j using Nat.strongRecOn with
  | _ j ih =>
    intro its k hj hk
    by_cases h0 : j = 0
    · subst h0; rw [upL_zero]
    by_cases h : untilAt its j < untilAt its ((j - 1) / 2)
    · rw [upL_go h0 h, ih _ (by omega) _ _ (by rw [swapL_length]; omega) (by omega), swapL_get (by omega) hj (by omega), if_neg (by omega), if_neg (by omega)]
    · rw [upL_stop h]
theorem upL_heap : ∀ (j : Nat) (its : List It) (n : Nat), j < n → n ≤ its.length → UpInv its n j → HeapN (upL its j) n := by
  intro j
  induction j using Nat.strongRecOn with
  | _ j ih =>
    intro its n hj hn h
    by_cases h0 : j = 0
    · subst h0; rw [upL_zero]
      intro k k0 k1; exact h.1 k k0 k1 (by omega)
    by_cases hu : untilAt its j < untilAt its ((j - 1) / 2)
    · rw [upL_go h0 hu]
      refine ih _ (by omega) _ n (by omega) (by rw [swapL_length]; exact hn) ⟨?_, ?_⟩
      · intro k k0 k1 kp
        rw [swapL_until (by omega) (by omega) (by omega), swapL_until (by omega) (by omega) (by omega), if_neg kp]
        by_cases e1 : (k - 1) / 2 = (j - 1) / 2
        · rw [if_pos e1]
          by_cases e2 : k = j
          · rw [if_pos e2]; omega
          · rw [if_neg e2]
            have := h.1 k k0 k1 e2
            rw [e1] at this; omega
        · rw [if_neg e1]
          by_cases e3 : (k - 1) / 2 = j
          · rw [if_pos e3, if_neg (by omega)]
            exact h.2 k k0 k1 e3 (by omega)
          · rw [if_neg e3]
            by_cases e2 : k = j
            · subst e2; exact absurd rfl e1
            · rw [if_neg e2]; exact h.1 k k0 k1 e2
      · intro k k0 k1 kp p0
        have hpp := h.1 ((j - 1) / 2) p0 (by omega) (by omega)
        rw [swapL_until (by omega) (by omega) (by omega), swapL_until (by omega) (by omega) (by omega), if_neg (by omega), if_neg (by omega), if_neg (by omega)]
        by_cases e2 : k = j
        · rw [if_pos e2]; exact hpp
        · rw [if_neg e2]
          have := h.1 k k0 k1 e2
          rw [kp] at this
          omega
    · rw [upL_stop hu]
      intro k k0 k1
      by_cases e : k = j
      · subst e; omega
      · exact h.1 k k0 k1 e

/-- .. but one may be too small or too great. -/
def DInv (its : List It) (n i : Nat) : Prop :=
  (∀ k, 0 < k → k < n → (k - 1) / 2 ≠ i → k ≠ i → untilAt its ((k - 1) / 2) ≤ untilAt its k) ∧ (∀ k, 0 < k → k < n → (k - 1) / 2 = i → 0 < i → untilAt its ((i - 1) / 2) ≤ untilAt its k)
theorem childL_lt {its : List It} {i n : Nat} (h : ¬ n ≤ 2 * i + 1) : childL its i n < n := by unfold childL; split <;> omega
theorem childL_or (its : List It) (i n : Nat) : childL its i n = 2 * i + 1 ∨ childL its i n = 2 * i + 2 := by unfold childL; split <;> simp
theorem childL_le {its : List It} {i n : Nat} (k : Nat) (k0 : 0 < k) (k1 : k < n) (kp : (k - 1) / 2 = i) : untilAt its (childL its i n) ≤ untilAt its k := by
  rcases (show k = 2 * i + 1 ∨ k = 2 * i + 2 by omega) with rfl | rfl
  · unfold childL; split
    · next h => omega
    · exact Int.le_refl _
  · unfold childL; split
    · exact Int.le_refl _
    · next h => 
      have : ¬ untilAt its (2 * i + 2) < untilAt its (2 * i + 1) := fun e => h ⟨k1, e⟩
      omega
theorem downL_far : ∀ (d i n : Nat) (its : List It) (k : Nat), n - i = d → n ≤ its.length → i < n → n ≤ k → (downL its i n).1[k]? = its[k]? := by
  intro d
  induction d using Nat.strongRecOn with
  | _ d ih =>
    intro i n its k hd hn hi hk
    by_cases h : n ≤ 2 * i + 1
    · rw [downL_end h]
    by_cases hu : untilAt its (childL its i n) < untilAt its i
    · have hc := childL_lt (its := its) h
      have hg := childL_gt its i n
      rw [downL_go h hu, ih (n - childL its i n) (by omega) _ _ _ _ rfl (by rw [swapL_length]; exact hn) hc hk, swapL_get (by omega) (by omega) (by omega), if_neg (by omega), if_neg (by omega)]
    · rw [downL_stop hu]
theorem downL_le : ∀ (d i n : Nat) (its : List It), n - i = d → i < n → i ≤ (downL its i n).2 ∧ (downL its i n).2 < n := by
  intro d
  induction d using Nat.strongRecOn with
  | _ d ih =>
    intro i n its hd hi
    by_cases h : n ≤ 2 * i + 1
    · rw [downL_end h]; exact ⟨Nat.le_refl _, hi⟩
    by_cases hu : untilAt its (childL its i n) < untilAt its i
    · have hc := childL_lt (its := its) h
      have hg := childL_gt its i n
      rw [downL_go h hu]
      have := ih (n - childL its i n) (by omega) (childL its i n) n (swapL its i (childL its i n)) rfl hc
      omega
    · rw [downL_stop hu]; exact ⟨Nat.le_refl _, hi⟩
/-- Where the one is not too small, all is well behind 'down'. -/
theorem downL_heap : ∀ (d i n : Nat) (its : List It), n - i = d → n ≤ its.length → i < n → DInv its n i → (0 < i → untilAt its ((i - 1) / 2) ≤ untilAt its i) → HeapN (downL its i n).1 n := by
  intro d
  induction d using Nat.strongRecOn with
  | _ d ih =>
    intro i n its hd hn hi h hp
    have all : (∀ k, 0 < k → k < n → (k - 1) / 2 = i → untilAt its i ≤ untilAt its k) → HeapN its n := by
      intro hc k k0 k1
      by_cases e : (k - 1) / 2 = i
      · rw [e]; exact hc k k0 k1 e
      · by_cases e2 : k = i
        · subst e2; exact hp k0
        · exact h.1 k k0 k1 e e2
    by_cases hb : n ≤ 2 * i + 1
    · rw [downL_end hb]
      exact all (fun k k0 k1 kp => by omega)
    by_cases hu : untilAt its (childL its i n) < untilAt its i
    · have hc := childL_lt (its := its) hb
      have hg := childL_gt its i n
      have ho := childL_or its i n
      have hle := fun k k0 k1 kp => childL_le (its := its) (i := i) (n := n) k k0 k1 kp
      rw [downL_go hb hu]
      generalize childL its i n = c at *
      refine ih (n - c) (by omega) c n _ rfl (by rw [swapL_length]; exact hn) hc ⟨?_, ?_⟩ ?_
      · intro k k0 k1 kp kc
        rw [swapL_until (by omega) (by omega) (by omega), swapL_until (by omega) (by omega) (by omega), if_neg kp, if_neg kc]
        by_cases e1 : (k - 1) / 2 = i
        · rw [if_pos e1, if_neg (by omega)]
          exact hle k k0 k1 e1
        · rw [if_neg e1]
          by_cases e2 : k = i
          · rw [if_pos e2]; subst e2
            exact h.2 c (by omega) hc (by omega) k0
          · rw [if_neg e2]; exact h.1 k k0 k1 e1 e2
      · intro k k0 k1 kp c0
        have ec : (c - 1) / 2 = i := by omega
        rw [swapL_until (by omega) (by omega) (by omega), swapL_until (by omega) (by omega) (by omega), if_pos ec, if_neg (by omega), if_neg (by omega)]
        have := h.1 k k0 k1 (by omega) (by omega)
        rw [kp] at this; exact this
      · intro c0
        have ec : (c - 1) / 2 = i := by omega
        rw [swapL_until (by omega) (by omega) (by omega), swapL_until (by omega) (by omega) (by omega), if_pos ec, if_neg (by omega), if_pos rfl]
        omega
    · rw [downL_stop hu]
      refine all (fun k k0 k1 kp => ?_)
      have := childL_le (its := its) k k0 k1 kp
      omega
/-- Where it went down, all is well. -/
theorem downL_moved {i n : Nat} {its : List It} (hn : n ≤ its.length) (hi : i < n) (h : DInv its n i) (hm : i < (downL its i n).2) : HeapN (downL its i n).1 n := by
  by_cases hb : n ≤ 2 * i + 1
  · rw [downL_end hb] at hm; exact absurd hm (Nat.lt_irrefl _)
  by_cases hu : untilAt its (childL its i n) < untilAt its i
  · have hc := childL_lt (its := its) hb
    have hg := childL_gt its i n
    have ho := childL_or its i n
    have hle := fun k k0 k1 kp => childL_le (its := its) (i := i) (n := n) k k0 k1 kp
    rw [downL_go hb hu]
    clear hm
    generalize childL its i n = c at *
    refine downL_heap _ c n _ rfl (by rw [swapL_length]; exact hn) hc ⟨?_, ?_⟩ ?_
    · intro k k0 k1 kp kc
      rw [swapL_until (by omega) (by omega) (by omega), swapL_until (by omega) (by omega) (by omega), if_neg kp, if_neg kc]
      by_cases e1 : (k - 1) / 2 = i
      · rw [if_pos e1, if_neg (by omega)]
        exact hle k k0 k1 e1
      · rw [if_neg e1]
        by_cases e2 : k = i
        · rw [if_pos e2]; subst e2
          exact h.2 c (by omega) hc (by omega) k0
        · rw [if_neg e2]; exact h.1 k k0 k1 e1 e2
    · intro k k0 k1 kp c0
      have ec : (c - 1) / 2 = i := by omega
      rw [swapL_until (by omega) (by omega) (by omega), swapL_until (by omega) (by omega) (by omega), if_pos ec, if_neg (by omega), if_neg (by omega)]
      have := h.1 k k0 k1 (by omega) (by omega)
      rw [kp] at this; exact this
    · intro c0
      have ec : (c - 1) / 2 = i := by omega
      rw [swapL_until (by omega) (by omega) (by omega), swapL_until (by omega) (by omega) (by omega), if_pos ec, if_neg (by omega), if_pos rfl]
      omega
  · rw [downL_stop hu] at hm; exact absurd hm (Nat.lt_irrefl _)
theorem downL_still {i n : Nat} {its : List It} (hi : i < n) (hm : ¬ i < (downL its i n).2) : (downL its i n).1 = its ∧ ∀ k, 0 < k → k < n → (k - 1) / 2 = i → untilAt its i ≤ untilAt its k := by
  by_cases hb : n ≤ 2 * i + 1
  · rw [downL_end hb]; exact ⟨rfl, fun k k0 k1 kp => by omega⟩
  by_cases hu : untilAt its (childL its i n) < untilAt its i
  · have hc := childL_lt (its := its) hb
    have hg := childL_gt its i n
    rw [downL_go hb hu] at hm
    have := downL_le _ (childL its i n) n (swapL its i (childL its i n)) rfl hc
    omega
  · rw [downL_stop hu]
    exact ⟨rfl, fun k k0 k1 kp => by have := childL_le (its := its) k k0 k1 kp; omega⟩

/-- What a push makes. -/
theorem push_heap {its : List It} (x : It) (h : HeapN its its.length) : HeapN (upL (its ++ [x]) its.length) (its.length + 1) := by
  have far : ∀ k, k < its.length → untilAt (its ++ [x]) k = untilAt its k := by
    intro k hk; unfold untilAt; rw [List.getElem?_append_left hk]
  refine upL_heap _ _ _ (by omega) (by simp) ⟨?_, ?_⟩
  · intro k k0 k1 kn
    rw [far k (by omega), far _ (by omega)]
    exact h k k0 (by omega)
  · intro k k0 k1 kp; omega
/-- What a removal makes. -/
theorem rem_heap {its : List It} {i : Nat} {x : It} (hx : its[i]? = some x) (h : HeapN its its.length) : ∃ l, remL its i = l ++ [x] ∧ HeapN l l.length := by
  have hi : i < its.length := (List.getElem?_eq_some_iff.1 hx).1
  have hlen : (remL its i).length = its.length := (remL_perm its i).length_eq
  have key : (remL its i)[its.length - 1]? = some x ∧ HeapN (remL its i) (its.length - 1) := by
    unfold remL
    by_cases e : i = its.length - 1
    · rw [if_pos e]
      exact ⟨by rw [← e]; exact hx, fun k k0 k1 => h k k0 (by omega)⟩
    · rw [if_neg e]
      have hs : i < its.length - 1 := by omega
      have hsl : (swapL its i (its.length - 1)).length = its.length := swapL_length _ _ _
      have hst : ∀ k, untilAt (swapL its i (its.length - 1)) k = if k = i then untilAt its (its.length - 1) else if k = its.length - 1 then untilAt its i else untilAt its k := fun k => swapL_until hi (by omega) (by omega) k
      have hlast : (swapL its i (its.length - 1))[its.length - 1]? = some x := by
        rw [swapL_get hi (by omega) (by omega), if_neg (by omega), if_pos rfl, hx]
      have hd : DInv (swapL its i (its.length - 1)) (its.length - 1) i := by
        refine ⟨?_, ?_⟩
        · intro k k0 k1 kp ki
          rw [hst, hst, if_neg kp, if_neg (by omega), if_neg ki, if_neg (by omega)]
          exact h k k0 (by omega)
        · intro k k0 k1 kp i0
          rw [hst, hst, if_neg (by omega), if_neg (by omega), if_neg (by omega), if_neg (by omega)]
          have h1 := h i i0 (by omega)
          have h2 := h k k0 (by omega)
          rw [kp] at h2; omega
      by_cases hm : i < (downL (swapL its i (its.length - 1)) i (its.length - 1)).2
      · rw [if_pos hm]
        refine ⟨?_, downL_moved (by omega) hs hd hm⟩
        rw [downL_far _ i _ _ _ rfl (by omega) hs (Nat.le_refl _), hlast]
      · rw [if_neg hm]
        obtain ⟨e1, e2⟩ := downL_still hs hm
        rw [e1]
        refine ⟨?_, upL_heap _ _ _ hs (by omega) ⟨?_, hd.2⟩⟩
        · rw [upL_far _ _ _ (by omega) hs, hlast]
        · intro k k0 k1 kj
          by_cases e3 : (k - 1) / 2 = i
          · rw [e3]; exact e2 k k0 k1 e3
          · exact hd.1 k k0 k1 e3 kj
  obtain ⟨k1, k2⟩ := key
  refine ⟨(remL its i).dropLast, ?_, ?_⟩
  · have hne : remL its i ≠ [] := by intro e; rw [e] at hlen; simp at hlen; omega
    have := (List.dropLast_concat_getLast hne).symm
    rw [List.getLast_eq_getElem hne] at this
    have h3 : (remL its i)[(remL its i).length - 1]'(by omega) = x := by
      have h4 := List.getElem?_eq_getElem (l := remL its i) (i := its.length - 1) (by omega)
      rw [k1] at h4
      have h5 := (Option.some.inj h4).symm
      simpa [hlen] using h5
    rw [h3] at this
    exact this
  · intro k k0 k1
    rw [List.length_dropLast] at k1
    have e : ∀ j, j < (remL its i).length - 1 → untilAt (remL its i).dropLast j = untilAt (remL its i) j := by
      intro j hj; unfold untilAt; rw [List.getElem?_dropLast, if_pos hj]
    rw [e _ (by omega), e _ (by omega)]
    exact k2 k k0 (by omega)
/-- The first of a heap is the least. -/
theorem heap_least {its : List It} {n : Nat} (h : HeapN its n) : ∀ k, k < n → untilAt its 0 ≤ untilAt its k := by
  intro k
  induction k using Nat.strongRecOn with
  | _ k ih =>
    intro hk
    by_cases h0 : k = 0
    · subst h0; exact Int.le_refl _
    · exact Int.le_trans (ih ((k - 1) / 2) (by omega) (by omega)) (h k (by omega) hk)
end Go.Proofs.Ytihfapnipifiiaa
