/- The walks of package name: slices.Reverse, two, Shared, Same, Under. -/
import Derived.Test.YtihfapnipifiiaaName2
import Derived.Test.YtihfapnipifiiaaLower
import Derived.RegionTactic
import Derived.ChangeAlike
import Derived.BigRegion
namespace Go.Proofs.Ytihfapnipifiiaa
open Go Go.RowKit Go.Shelf

/-- A whole block of one-cell elements, of which the first n are known. -/
def RowIs (w : World) (g : Nat) (e : TypeId) (cap : Nat) (f : Nat → Value) (n : Nat) : Prop :=
  ∃ cur : Array Value, w.heap[g]? = some (.cells cur e (0, 0)) ∧ cur.size = cap ∧ ∀ i, i < n → cur[i]? = some (f i)
theorem RowIs.cell {w : World} {g : Nat} {e : TypeId} {cap : Nat} {f : Nat → Value} {n : Nat} (h : RowIs w g e cap f n) {i : Nat} (hi : i < n) : w.cell? ⟨g, i, none⟩ = some (f i) ∧ w.frozen? ⟨g, i, none⟩ = false := by
  obtain ⟨cur, h1, _, h3⟩ := h
  exact ⟨by simp [World.cell?, h1, h3 i hi], by simp [World.frozen?, h1]⟩
theorem RowIs.set {w : World} {g : Nat} {e : TypeId} {cap : Nat} {f : Nat → Value} {n : Nat} (h : RowIs w g e cap f n) {i : Nat} (v : Value) : RowIs (w.setCell ⟨g, i, none⟩ v) g e cap (fun j => if j = i then v else f j) n := by
  obtain ⟨cur, h1, h2, h3⟩ := h
  refine ⟨cur.setIfInBounds i v, ?_, by simp [h2], ?_⟩
  · simp [World.setCell, Array.getElem?_modify, h1]
  · intro j hj
    have hlt : j < cur.size := (Array.getElem?_eq_some_iff.1 (h3 j hj)).1
    rw [Array.getElem?_setIfInBounds]
    by_cases e : i = j
    · subst e; simp [hlt]
    · have e' : ¬ j = i := fun h => e h.symm
      simp [e, e', h3 j hj]
theorem RowIs.drew {w : World} {g : Nat} {e : TypeId} {cap : Nat} {f : Nat → Value} {n : Nat} (h : RowIs w g e cap f n) : RowIs w.drew g e cap f n := h
theorem RowIs.congr {w : World} {g : Nat} {e : TypeId} {cap : Nat} {f f' : Nat → Value} {n : Nat} (h : RowIs w g e cap f n) (hf : ∀ i, i < n → f i = f' i) : RowIs w g e cap f' n := by
  obtain ⟨cur, h1, h2, h3⟩ := h
  exact ⟨cur, h1, h2, fun i hi => (h3 i hi).trans (by rw [hf i hi])⟩
theorem Strs.row {w : World} {B : Nat} {g n cap : Nat} {ls : List (List UInt8)} (h : Strs w B (.slice (some ⟨g, 0, none⟩) n cap) ls) :
    n = ls.length ∧ B ≤ g ∧ n ≤ cap ∧ cap ≤ maxLen ∧ RowIs w g 9 cap (fun i => .string (bs (ls.getD i []))) n := by
  obtain ⟨_, h | ⟨g', cap', cur, e, hb, hh, hn, hm, hs, ht⟩⟩ := h
  · cases h.1
  · cases e
    refine ⟨rfl, hb, hn, hm, cur, hh, by omega, fun i hi => ?_⟩
    have hc := congrArg (fun l => l[i]?) ht
    simp only [Nat.mul_one] at hc
    rw [List.getElem?_take_of_lt hi, List.getElem?_map, List.getElem?_eq_getElem hi] at hc
    rw [Array.getElem?_toList] at hc
    rw [hc]; simp [List.getD, List.getElem?_eq_getElem hi]
theorem Strs.of_row {w : World} {B : Nat} {g cap : Nat} {ls : List (List UInt8)} (hb : B ≤ g) (hn : ls.length ≤ cap) (hm : cap ≤ maxLen)
    (h : RowIs w g 9 cap (fun i => .string (bs (ls.getD i []))) ls.length) : Strs w B (.slice (some ⟨g, 0, none⟩) ls.length cap) ls := by
  obtain ⟨cur, h1, h2, h3⟩ := h
  refine ⟨by simp, .inr ⟨g, cap, cur, rfl, hb, h1, hn, hm, by omega, ?_⟩⟩
  apply List.ext_getElem?
  intro i
  rw [Nat.mul_one]
  by_cases hi : i < ls.length
  · rw [List.getElem?_take_of_lt hi, Array.getElem?_toList, h3 i hi, List.getElem?_map, List.getElem?_eq_getElem hi]
    simp [List.getD, List.getElem?_eq_getElem hi]
  · rw [List.getElem?_take, if_neg hi, List.getElem?_eq_none (by simp; omega)]

/-- The first k and the last k of n are exchanged. -/
def revAt (ls : List (List UInt8)) (k i : Nat) : List UInt8 := if i < k ∨ ls.length - k ≤ i then ls.getD (ls.length - 1 - i) [] else ls.getD i []

theorem revAt_step {ls : List (List UInt8)} {k n : Nat} (hn : n = ls.length) (hk : 2 * k + 1 < n) (i : Nat) (hi : i < n) :
    (if i = n - 1 - k then Value.string (bs (revAt ls k k)) else if i = k then Value.string (bs (revAt ls k (n - 1 - k))) else Value.string (bs (revAt ls k i))) = Value.string (bs (revAt ls (k + 1) i)) := by
  subst hn
  by_cases h1 : i = ls.length - 1 - k
  · rw [if_pos h1]; unfold revAt
    rw [if_neg (by omega), if_pos (by omega), show ls.length - 1 - i = k by omega]
  · rw [if_neg h1]
    by_cases h2 : i = k
    · rw [if_pos h2]; unfold revAt
      rw [if_neg (by omega), if_pos (by omega), h2]
    · rw [if_neg h2]; unfold revAt
      by_cases h3 : i < k ∨ ls.length - k ≤ i
      · rw [if_pos h3, if_pos (by omega)]
      · rw [if_neg h3, if_neg (by omega)]
theorem revAt_end {ls : List (List UInt8)} {k n : Nat} (hn : n = ls.length) (hk : n ≤ 2 * k + 1) (i : Nat) (hi : i < n) : revAt ls k i = ls.reverse.getD i [] := by
  subst hn
  have e : ls.reverse.getD i [] = ls.getD (ls.length - 1 - i) [] := by
    simp [List.getD, List.getElem?_reverse hi]
  rw [e]; unfold revAt
  by_cases h : i < k ∨ ls.length - k ≤ i
  · rw [if_pos h]
  · rw [if_neg h, show ls.length - 1 - i = i by omega]
theorem grown_set {w W : World} {g i : Nat} {v : Value} (h : w.grownBy W (some g)) : w.grownBy (W.setCell ⟨g, i, none⟩ v) (some g) :=
  ⟨h.os, h.tape, h.output, by have := h.size; simp [World.setCell]; omega, fun k hk hne => (Below.heap_setCell _ _ _ _ (by simp; intro e; exact hne (by rw [e]))).trans (h.block k hk hne)⟩
theorem grown_drew {w W : World} {r : Option Nat} (h : w.grownBy W r) : w.grownBy W.drew r := ⟨h.os, h.tape, h.output, h.size, h.block⟩

set_option maxRecDepth 100000 in
set_option maxHeartbeats 1000000 in
theorem reverse_any (g n cap : Nat) (ls : List (List UInt8)) (B : Nat) (w : World) (hst : Strs w B (.slice (some ⟨g, 0, none⟩) n cap) ls) :
    Calls Try.prog 123 #[.slice (some ⟨g, 0, none⟩) n cap] w fun e w' => e = .returned (.tuple #[]) ∧ Strs w' B (.slice (some ⟨g, 0, none⟩) n cap) ls.reverse ∧ w.grownBy w' (some g) := by
  obtain ⟨hn, hB, hc, hm, hrow⟩ := hst.row
  have Hm := Lib.hid hm
  unfold maxLen at hm
  have Hn := Lib.hid hn
  have hcap : n ≤ 9223372036854775807 := by omega
  clear hn hst hm
  go_enter Try.func123, Try.ntmps123
  go_wp2
  go_loopw [2, 3] (fun i_ j_ wr => ∃ k : Nat, i_ = .int .i64 k ∧ j_ = .int .i64 ((n : Int) - 1 - k) ∧ 2 * k ≤ n + 1 ∧ RowIs wr g 9 cap (fun i => .string (bs (revAt ls k i))) n ∧ w.grownBy wr (some g)) (fun i _ _ => n - (intOf i).toNat)
  case atStart => exact ⟨0, rfl, by simp, by omega, hrow.congr (fun i hi => by have := Hn.out; unfold revAt; rw [if_neg (by omega)]), ⟨rfl, rfl, rfl, Nat.le_refl _, fun _ _ _ => rfl⟩⟩
  case round =>
    obtain ⟨k, rfl, rfl, hk, hr, hg⟩ := hrel
    by_cases hlt : 2 * k + 1 < n
    · obtain ⟨c1, f1⟩ := hr.cell (i := k) (by omega)
      obtain ⟨c2, f2⟩ := hr.cell (i := n - 1 - k) (by omega)
      have et : ((n : Int) - 1 - k).toNat = n - 1 - k := by omega
      have b1 : 0 ≤ (n : Int) - 1 - k := by omega
      have b2 : (n : Int) - 1 - k < n := by omega
      have b3 : (k : Int) < (n : Int) - 1 - k := by omega
      have Hr := Lib.hid hr
      clear hrow hr
      go_wp2
      go_region
      all_goals go_wp2
      all_goals go_roundw
      case rel =>
        refine ⟨k + 1, by go_num, by congr 1; omega, by omega, ?_, ?_⟩
        · exact RowIs.drew ((((Hr.out).set _).set _).congr (fun i hi => revAt_step Hn.out hlt i hi))
        · exact grown_drew (grown_set (grown_set hg))
      case measure => simp [intOf]; omega
    · go_wp2
      go_end0
      have hn := Hn.out
      refine ⟨rfl, ?_, hg⟩
      have e : n = ls.reverse.length := by rw [List.length_reverse]; exact hn
      have := Strs.of_row (w := wr) (B := B) (g := g) (cap := cap) (ls := ls.reverse) hB (by omega) Hm.out (by rw [← e]; exact hr.congr (fun i hi => by rw [revAt_end hn (by omega) i hi]))
      rwa [← e] at this

theorem reverse_nil (w : World) :
    Calls Try.prog 123 #[.slice none 0 0] w fun e w' => e = .returned (.tuple #[]) ∧ w = w' := by
  go_enter Try.func123, Try.ntmps123
  go_wp2
  refine wp_loop_once ?_
  go_wp2
  go_end0
  exact ⟨rfl, rfl⟩
theorem reverse_strs {v : Value} {ls : List (List UInt8)} {B : Nat} {w : World} (hst : Strs w B v ls) :
    Calls Try.prog 123 #[v] w fun e w' => e = .returned (.tuple #[]) ∧ Strs w' B v ls.reverse ∧ w.grownBy w' v.ownBlock := by
  rcases hst.2 with ⟨rfl, hn⟩ | ⟨g, cap, cur, rfl, _⟩
  · refine (reverse_nil w).mono ?_
    rintro e w' ⟨rfl, rfl⟩
    have : ls = [] := List.eq_nil_of_length_eq_zero hn
    subst this
    exact ⟨rfl, hst, ⟨rfl, rfl, rfl, Nat.le_refl _, fun _ _ _ => rfl⟩⟩
  · exact reverse_any g _ cap ls B w hst
theorem Strs.lt {w : World} {B : Nat} {v : Value} {ls : List (List UInt8)} (h : Strs w B v ls) (k : Nat) (hk : v.ownBlock = some k) : B ≤ k ∧ k < w.heap.size := by
  obtain ⟨h1, cur, h2⟩ := own_cells h k hk
  exact ⟨h1, (Array.getElem?_eq_some_iff.1 h2).1⟩
theorem Strs.other {w w' : World} {B : Nat} {v u : Value} {ls : List (List UInt8)} (h : Strs w B v ls) (hd : ∀ k, u.ownBlock = some k → k < B) (hg : w.grownBy w' u.ownBlock) : Strs w' B v ls := by
  refine World.ownsRow.kept h hg ?_
  by_cases e : v.ownBlock = u.ownBlock
  · cases hv : v.ownBlock with
    | none => exact .inl rfl
    | some k => rw [hv] at e; have := hd k e.symm; have := (Strs.lt h k hv).1; omega
  · exact .inr e

/-- What 'two' hands back. -/
def TwoPost (a b : List UInt8) (w : World) (e : Ending) (w' : World) : Prop :=
  ∃ v u ls ms, e = .returned (.tuple #[v, u, .bool (decide (chk a = 0) && decide (chk b = 0))]) ∧ Below w.heap.size w w' ∧ Strs w' w.heap.size v ls ∧ Strs w' w.heap.size u ms ∧
    (chk a = 0 → lab (low a) = some ls.reverse) ∧ (chk b = 0 → lab (low b) = some ms.reverse)

theorem low_length (l : List UInt8) : (low l).length = l.length := by simp [low]
theorem lowB_zero : ∀ c : UInt8, lowB c = 0 ↔ c = 0 := by
  intro c; unfold lowB
  by_cases h : 65 ≤ c ∧ c ≤ 90
  · rw [if_pos h]
    obtain ⟨h1, h2⟩ := h
    constructor
    · intro e
      have := congrArg UInt8.toNat e
      rw [UInt8.toNat_add] at this
      simp only [UInt8.le_iff_toNat_le] at h1 h2
      have e1 : (65 : UInt8).toNat = 65 := rfl
      have e2 : (90 : UInt8).toNat = 90 := rfl
      have e3 : (32 : UInt8).toNat = 32 := rfl
      have e4 : (0 : UInt8).toNat = 0 := rfl
      omega
    · intro e; subst e; simp only [UInt8.le_iff_toNat_le] at h1; exact absurd h1 (by decide)
  · rw [if_neg h]
theorem lowB_toNat (c : UInt8) : (lowB c).toNat = if 65 ≤ c.toNat ∧ c.toNat ≤ 90 then c.toNat + 32 else c.toNat := by
  unfold lowB
  have e : (65 ≤ c ∧ c ≤ 90) ↔ (65 ≤ c.toNat ∧ c.toNat ≤ 90) := by simp only [UInt8.le_iff_toNat_le]; exact Iff.rfl
  by_cases h : 65 ≤ c.toNat ∧ c.toNat ≤ 90
  · rw [if_pos (e.2 h), if_pos h, UInt8.toNat_add]
    show (c.toNat + 32) % 256 = _
    omega
  · rw [if_neg (fun h' => h (e.1 h')), if_neg h]
theorem lab_low (l : List UInt8) : lab (low l) = (lab l).map (fun ls => ls.map low) := by
  suffices ∀ n (l : List UInt8), l.length = n → lab (low l) = (lab l).map (fun ls => ls.map low) from this _ l rfl
  intro n
  induction n using Nat.strongRecOn with
  | _ n ih =>
    intro l hl
    cases l with
    | nil => simp [low, lab]
    | cons c r =>
      have e : low (c :: r) = lowB c :: low r := rfl
      rw [e, lab, lab]
      by_cases h0 : c = 0
      · rw [if_pos ((lowB_zero c).2 h0), if_pos h0]
        by_cases hr : r = []
        · subst hr; simp [low]
        · rw [if_neg hr, if_neg (fun h => hr (by simpa [low] using h))]; rfl
      · rw [if_neg (fun h => h0 ((lowB_zero c).1 h)), if_neg h0, low_length]
        have ht := lowB_toNat c
        by_cases hb : 63 < c.toNat ∨ r.length < c.toNat
        · rw [if_pos hb]
          by_cases h63 : 63 < c.toNat
          · rw [if_pos (.inl (by rw [ht]; split <;> omega))]; rfl
          · rw [if_pos (.inr (by rw [ht, if_neg (by omega)]; omega))]; rfl
        · rw [if_neg hb]
          have ec : (lowB c).toNat = c.toNat := by rw [ht, if_neg (by omega)]
          rw [ec, if_neg hb]
          have hd : (low r).drop c.toNat = low (r.drop c.toNat) := by simp [low]
          have htk : (low r).take c.toNat = low (r.take c.toNat) := by simp [low]
          rw [hd, htk, ih (r.drop c.toNat).length (by simp only [List.length_drop, List.length_cons] at hl ⊢; omega) _ rfl]
          cases lab (r.drop c.toNat) <;> simp
theorem chk_low (l : List UInt8) : chk (low l) = chk l := by
  unfold chk; rw [lab_low, low_length]; cases lab l <;> simp

set_option maxRecDepth 100000 in
set_option maxHeartbeats 1000000 in
theorem two_any (a b : ByteArray) (w : World) (ha : a.size ≤ 1099511627776) (hb : b.size ≤ 1099511627776) :
    Calls Try.prog 116 #[.string a, .string b] w (TwoPost (lst a) (lst b) w) := by
  have hla := lst_length a
  have hlb := lst_length b
  have Hla := Lib.hid hla
  have Hlb := Lib.hid hlb
  clear hla hlb
  go_enter Try.func116, Try.ntmps116
  go_wp2_with fail
  refine (lower_any a _ (by omega)).mono ?_
  rintro e w1 ⟨rfl, h1⟩
  go_wp2_with fail
  refine (labels_any (bs (low (lst a))) _ (by rw [bs_size, low_length, Hla.out]; exact ha)).mono ?_
  rintro e w2 ⟨v, ls, rfl, h2, hs2, hl2, hz2⟩
  rw [lst_bs, chk_low] at *
  have Hl2 := Lib.hid hl2
  clear hl2 hz2
  go_wp2_with fail
  refine (lower_any b _ (by omega)).mono ?_
  rintro e w3 ⟨rfl, h3⟩
  go_wp2_with fail
  refine (labels_any (bs (low (lst b))) _ (by rw [bs_size, low_length, Hlb.out]; exact hb)).mono ?_
  rintro e w4 ⟨u, ms, rfl, h4, hs4, hl4, hz4⟩
  rw [lst_bs, chk_low] at *
  have Hl4 := Lib.hid hl4
  clear hl4 hz4
  have hlt2 : ∀ k, v.ownBlock = some k → w1.heap.size ≤ k ∧ k < w2.heap.size := fun k hk => hs2.lt k hk
  have hz12 := h1.size
  have hz23 := h2.size
  have hz34 := h3.size
  have hz45 := h4.size
  have hs2' : Strs w4 w1.heap.size v ls := (hs2.below h3).below h4
  go_wp2_with fail
  refine (reverse_strs hs2').mono ?_
  rintro e w5 ⟨rfl, hs5, hg5⟩
  have hs4' : Strs w5 w3.heap.size u ms := hs4.other (fun k hk => by have := (hlt2 k hk).2; omega) hg5
  have hlt4 : ∀ k, u.ownBlock = some k → w3.heap.size ≤ k ∧ k < w5.heap.size := fun k hk => hs4'.lt k hk
  go_wp2_with fail
  refine (reverse_strs hs4').mono ?_
  rintro e w6 ⟨rfl, hs6, hg6⟩
  have hz56 := hg5.size
  have hz67 := hg6.size
  have hs5' : Strs w6 w1.heap.size v ls.reverse := by
    refine World.ownsRow.kept hs5 hg6 ?_
    by_cases e : v.ownBlock = u.ownBlock
    · cases hv : v.ownBlock with
      | none => exact .inl rfl
      | some k => rw [hv] at e; have := (hlt4 k e.symm).1; have := (hlt2 k hv).2; omega
    · exact .inr e
  have hB : Below w.heap.size w w6 := by
    have b4 : Below w.heap.size w w4 := ((h1.trans (h2.mono (by omega))).trans (h3.mono (by omega))).trans (h4.mono (by omega))
    have b5 := b4.grown hg5 (by omega) (fun k hk => by have := (hlt2 k hk).1; omega)
    exact b5.grown hg6 (by omega) (fun k hk => by have := (hlt4 k hk).1; omega)
  have fin : ∀ (r : Bool), r = (decide (chk (lst a) = 0) && decide (chk (lst b) = 0)) → TwoPost (lst a) (lst b) w (.returned (.tuple #[v, u, .bool r])) w6 := fun r hr =>
    ⟨v, u, ls.reverse, ms.reverse, by rw [hr], hB, hs5'.mono (by omega), hs6.mono (by omega), fun h => by rw [List.reverse_reverse]; exact Hl2.out h, fun h => by rw [List.reverse_reverse]; exact Hl4.out h⟩
  clear hs2 hs2' hs4 hs4' hs5 hs5' hs6 hg5 hg6 hB h1 h2 h3 h4 hlt2 hlt4
  have Fin := Lib.hid fin
  clear fin
  by_cases ca : chk (lst a) = 0
  · have ba : ((chk (lst a) : Int) == 0) = true := by rw [ca]; rfl
    have Ca := Lib.hid ca
    clear ca
    by_cases cb : chk (lst b) = 0
    · have bb : ((chk (lst b) : Int) == 0) = true := by rw [cb]; rfl
      have Cb := Lib.hid cb
      clear cb
      go_wp2
      go_ret3
      exact Fin.out true (by rw [Ca.out, Cb.out]; rfl)
    · have bb : ((chk (lst b) : Int) == 0) = false := beq_eq_false_iff_ne.2 cb
      have Cb := Lib.hid cb
      clear cb
      go_wp2
      go_ret3
      exact Fin.out false (by rw [decide_eq_false Cb.out]; simp)
  · have ba : ((chk (lst a) : Int) == 0) = false := beq_eq_false_iff_ne.2 ca
    have Ca := Lib.hid ca
    clear ca
    go_wp2
    go_ret3
    exact Fin.out false (by rw [decide_eq_false Ca.out]; simp)
end Go.Proofs.Ytihfapnipifiiaa
