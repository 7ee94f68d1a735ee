/- The walks of package name: Shared, Same, Under. -/
import Derived.Test.YtihfapnipifiiaaName3
import Derived.Deep.QuietTactic
import Derived.BigQuiet
namespace Go.Proofs.Ytihfapnipifiiaa
open Go Go.RowKit Go.Shelf

/-- How many of the first ones are the same. -/
def cpl : List (List UInt8) → List (List UInt8) → Nat
  | x :: xs, y :: ys => if x = y then cpl xs ys + 1 else 0
  | _, _ => 0
theorem cpl_spec : ∀ (xs ys : List (List UInt8)) (k : Nat), (∀ i, i < k → i < xs.length ∧ i < ys.length ∧ xs.getD i [] = ys.getD i []) → ¬ (k < xs.length ∧ k < ys.length ∧ xs.getD k [] = ys.getD k []) → cpl xs ys = k := by
  intro xs
  induction xs with
  | nil =>
    intro ys k h1 _
    cases k with
    | zero => rfl
    | succ k => have := (h1 0 (by omega)).1; simp at this
  | cons x xs ih =>
    intro ys k h1 h2
    cases ys with
    | nil =>
      cases k with
      | zero => rfl
      | succ k => have := (h1 0 (by omega)).2.1; simp at this
    | cons y ys =>
      cases k with
      | zero =>
        simp only [List.length_cons, List.getD_cons_zero] at h2
        unfold cpl; rw [if_neg (fun h => h2 ⟨by omega, by omega, h⟩)]
      | succ k =>
        have h0 := (h1 0 (by omega)).2.2
        simp only [List.getD_cons_zero] at h0
        unfold cpl; rw [if_pos h0, ih ys k]
        · intro i hi
          have := h1 (i + 1) (by omega)
          simpa using this
        · intro h
          apply h2
          simpa using h

def SameAt (xs ys : List (List UInt8)) (k : Nat) : Bool := decide (k < xs.length) && decide (k < ys.length) && (xs.getD k [] == ys.getD k [])

theorem Strs.cellAt {w : World} {B : Nat} {v : Value} {ls : List (List UInt8)} (h : Strs w B v ls) {k : Nat} (hk : k < ls.length) : ∃ g cap, v = .slice (some ⟨g, 0, none⟩) ls.length cap ∧ w.cell? ⟨g, k, none⟩ = some (.string (bs (ls.getD k []))) := by
  rcases h.2 with ⟨_, hn⟩ | ⟨g, cap, cur, rfl, _⟩
  · omega
  · exact ⟨g, cap, rfl, ((Strs.row h).2.2.2.2.cell hk).1⟩

set_option maxRecDepth 100000 in
set_option maxHeartbeats 1000000 in
theorem sharedc_any (bx by_ : Nat) (v u : Value) (xs ys : List (List UInt8)) (B1 B2 : Nat) (k : Nat) (w : World) (hx : w.cell? ⟨bx, 0, none⟩ = some v) (hy : w.cell? ⟨by_, 0, none⟩ = some u) (hsx : Strs w B1 v xs) (hsy : Strs w B2 u ys) (hk : k ≤ 1099511627776) :
    Calls Try.prog 117 #[.int .i64 k, .pointer (some ⟨bx, 0, none⟩), .pointer (some ⟨by_, 0, none⟩)] w fun e w' => e = .returned (.bool (SameAt xs ys k)) ∧ ∃ n, w' = w.drewN n := by
  by_cases h1 : k < xs.length
  · obtain ⟨gx, cx, rfl, hcx⟩ := hsx.cellAt h1
    by_cases h2 : k < ys.length
    · obtain ⟨gy, cy, rfl, hcy⟩ := hsy.cellAt h2
      clear hsx hsy
      generalize hX : xs.length = nx at *
      generalize hY : ys.length = ny at *
      have HX := Lib.hid hX
      have HY := Lib.hid hY
      clear hX hY
      have b1 : decide (k < nx) = true := by simpa using h1
      have b2 : decide (k < ny) = true := by simpa using h2
      go_enter Try.func117, Try.ntmps117
      go_wp2
      go_quiet (fail)
      go_wp2
      go_ret
      refine ⟨?_, _, rfl⟩
      show Ending.returned (.bool ((bs (xs[k]?.getD [])).toList == (bs (ys[k]?.getD [])).toList)) = _
      rw [toList_bs, toList_bs]
      unfold SameAt; rw [HX.out, HY.out, b1, b2]; rfl
    · obtain ⟨A, cap, rfl⟩ := hsy.shape
      clear hsx hsy
      generalize hX : xs.length = nx at *
      generalize hY : ys.length = ny at *
      have HX := Lib.hid hX
      have HY := Lib.hid hY
      clear hX hY
      have b1 : decide (k < nx) = true := by simpa using h1
      have b2 : decide (k < ny) = false := by simpa using h2
      go_enter Try.func117, Try.ntmps117
      go_wp2
      go_quiet (fail)
      go_wp2
      go_ret
      exact ⟨by unfold SameAt; rw [HX.out, HY.out, b1, b2]; rfl, _, rfl⟩
  · obtain ⟨A, cap, rfl⟩ := hsx.shape
    clear hsx hsy
    generalize hX : xs.length = nx at *
    have HX := Lib.hid hX
    clear hX
    have b1 : decide (k < nx) = false := by simpa using h1
    go_enter Try.func117, Try.ntmps117
    go_wp2
    go_quiet (fail)
    go_wp2
    go_ret
    exact ⟨by unfold SameAt; rw [HX.out, b1]; rfl, _, rfl⟩

theorem pw_drewN {B : Nat} {w W : World} (h : Below B w W) (n : Nat) : Below B w (W.drewN n) := ⟨h.os, h.tape, h.output, h.size, h.block⟩
/-- How many of the last labels are the same; -1: one is none. -/
def revlab (l : List UInt8) : List (List UInt8) := ((lab (low l)).getD []).reverse
def shared (a b : List UInt8) : Int := if chk a = 0 ∧ chk b = 0 then (cpl (revlab a) (revlab b) : Nat) else -1

set_option maxRecDepth 100000 in
set_option maxHeartbeats 1000000 in
theorem shared_any (a b : ByteArray) (w : World) (ha : a.size ≤ 1099511627776) (hb : b.size ≤ 1099511627776) :
    Calls Try.prog 99 #[.string a, .string b] w fun e w' => e = .returned (.int .i64 (shared (lst a) (lst b))) ∧ Below w.heap.size w w' := by
  go_enter Try.func99, Try.ntmps99
  go_wp2_with fail
  refine (two_any a b _ ha hb).mono ?_
  rintro e w1 ⟨v, u, xs, ys, rfl, h1, hx, hy, hlx, hly⟩
  have hz1 := h1.size
  have Hlx := Lib.hid hlx
  have Hly := Lib.hid hly
  clear hlx hly
  by_cases hc : chk (lst a) = 0 ∧ chk (lst b) = 0
  · have Hc := Lib.hid hc
    have e1 : decide (chk (lst a) = 0) = true := decide_eq_true hc.1
    have e2 : decide (chk (lst b) = 0) = true := decide_eq_true hc.2
    rw [e1, e2]
    have lx : xs.length ≤ 1099511627776 := by
      have := lab_len _ (Hlx.out hc.1); rw [low_length, lst_length, List.length_reverse] at this; omega
    clear hc e1 e2
    obtain ⟨A, ca, rfl⟩ := hx.shape
    obtain ⟨A', ca', rfl⟩ := hy.shape
    go_wp2
    generalize hW : (((w1.alloc (Obj.cells #[.slice A xs.length ca] 47)).alloc (Obj.cells #[.slice A' ys.length ca'] 47))) = W
    have g1 : W.cell? ⟨w1.heap.size, 0, none⟩ = some (.slice A xs.length ca) := by subst hW; go_simp
    have g2 : W.cell? ⟨w1.heap.size + 1, 0, none⟩ = some (.slice A' ys.length ca') := by subst hW; go_simp
    have g3 : Below w1.heap.size w1 W := by subst hW; exact ((Below.refl _ w1).alloc (Nat.le_refl _) _).alloc (by simp) _
    have g4 := hx.below g3
    have g5 := hy.below g3
    have g6 := h1.trans (g3.mono hz1)
    clear hW g3 hx hy h1
    go_loopw [9] (fun n_ wr => ∃ k : Nat, n_ = .int .i64 k ∧ (∀ i, i < k → SameAt xs ys i = true) ∧ k ≤ xs.length ∧ ∃ m, wr = W.drewN m) (fun n_ _ => xs.length - (intOf n_).toNat)
    case atStart => exact ⟨0, rfl, fun i hi => absurd hi (Nat.not_lt_zero i), Nat.zero_le _, 0, rfl⟩
    case round =>
      obtain ⟨k, rfl, hall, hle, m, rfl⟩ := hrel
      have Hall := Lib.hid hall
      clear hall
      by_cases hs : SameAt xs ys k = true
      · have Hs := Lib.hid hs
        have hlt : k < xs.length := by unfold SameAt at hs; simp only [Bool.and_eq_true, decide_eq_true_eq] at hs; exact hs.1.1
        clear hs
        go_wp2_with (go_at_call 117; refine (sharedc_any _ _ _ _ xs ys w.heap.size w.heap.size k _ (by exact g1) (by exact g2) (by exact g4) (by exact g5) (by omega)).mono ?_; rintro e w' ⟨rfl, n, rfl⟩; rw [Hs.out])
        go_roundw
        case rel => exact ⟨k + 1, by go_num, fun i hi => by
          by_cases e : i = k
          · rw [e]; exact Hs.out
          · exact Hall.out i (by omega), by omega, _, rfl⟩
        case measure => simp [intOf]; omega
      · have hs' : SameAt xs ys k = false := by simpa using hs
        have Hs := Lib.hid hs'
        clear hs hs'
        go_wp2_with (go_at_call 117; refine (sharedc_any _ _ _ _ xs ys w.heap.size w.heap.size k _ (by exact g1) (by exact g2) (by exact g4) (by exact g5) (by omega)).mono ?_; rintro e w' ⟨rfl, n, rfl⟩; rw [Hs.out])
        go_ret
        refine ⟨?_, ?_⟩
        · unfold shared; rw [if_pos Hc.out]
          have e1 : revlab (lst a) = xs := by unfold revlab; rw [Hlx.out Hc.out.1]; simp
          have e2 : revlab (lst b) = ys := by unfold revlab; rw [Hly.out Hc.out.2]; simp
          rw [e1, e2, cpl_spec xs ys k]; · rfl
          · intro i hi
            have := Hall.out i hi
            unfold SameAt at this
            simp only [Bool.and_eq_true, decide_eq_true_eq, beq_iff_eq] at this
            exact ⟨this.1.1, this.1.2, this.2⟩
          · rintro ⟨i1, i2, i3⟩
            have := Hs.out
            unfold SameAt at this
            rw [i3] at this
            simp [i1, i2] at this
        · exact pw_drewN g6 _
  · have e1 : (decide (chk (lst a) = 0) && decide (chk (lst b) = 0)) = false := by
      rw [← Bool.not_eq_true]; intro h; apply hc; simpa using h
    rw [e1]
    have Hc := Lib.hid hc
    clear hc e1
    obtain ⟨A, ca, rfl⟩ := hx.shape
    obtain ⟨A', ca', rfl⟩ := hy.shape
    go_wp2
    go_ret
    refine ⟨by unfold shared; rw [if_neg Hc.out]; rfl, ?_⟩
    exact (h1.alloc hz1 _).alloc (by simp; omega) _

/-- Are two names the same? -/
def sameN (a b : List UInt8) : Bool := decide (chk a = 0) && (low a == low b)
/-- Is a name in a zone? -/
def underN (a z : List UInt8) : Bool := decide (0 ≤ depth z) && (shared a z == depth z)

set_option maxRecDepth 100000 in
theorem same_any (a b : ByteArray) (w : World) (ha : a.size ≤ 1099511627776) (hb : b.size ≤ 1099511627776) :
    Calls Try.prog 51 #[.string a, .string b] w fun e w' => e = .returned (.bool (sameN (lst a) (lst b))) ∧ Below w.heap.size w w' := by
  go_enter Try.func51, Try.ntmps51
  go_wp2_with fail
  refine (check_any a _ ha).mono ?_
  rintro e w1 ⟨rfl, h1⟩
  have hz1 := h1.size
  by_cases hc : chk (lst a) = 0
  · have bc : ((chk (lst a) : Int) == 0) = true := by rw [hc]; rfl
    have Hc := Lib.hid hc
    clear hc
    go_wp2_with fail
    refine (lower_any a _ (by omega)).mono ?_
    rintro e w2 ⟨rfl, h2⟩
    have hz2 := h2.size
    go_wp2_with fail
    refine (lower_any b _ (by omega)).mono ?_
    rintro e w3 ⟨rfl, h3⟩
    go_wp2
    go_ret
    refine ⟨?_, (h1.trans (h2.mono hz1)).trans (h3.mono (by omega))⟩
    show Ending.returned (.bool ((bs (low (lst a))).toList == (bs (low (lst b))).toList)) = _
    rw [toList_bs, toList_bs]
    unfold sameN; rw [decide_eq_true Hc.out]; rfl
  · have bc : ((chk (lst a) : Int) == 0) = false := beq_eq_false_iff_ne.2 hc
    have Hc := Lib.hid hc
    clear hc
    go_wp2
    go_ret
    exact ⟨by unfold sameN; rw [decide_eq_false Hc.out]; rfl, h1⟩

set_option maxRecDepth 100000 in
theorem under_any (a z : ByteArray) (w : World) (ha : a.size ≤ 1099511627776) (hb : z.size ≤ 1099511627776) :
    Calls Try.prog 64 #[.string a, .string z] w fun e w' => e = .returned (.bool (underN (lst a) (lst z))) ∧ Below w.heap.size w w' := by
  go_enter Try.func64, Try.ntmps64
  go_wp2_with fail
  refine (depth_any z _ hb).mono ?_
  rintro e w1 ⟨rfl, h1⟩
  have hz1 := h1.size
  generalize hd : depth (lst z) = d
  have Hd := Lib.hid hd
  clear hd
  by_cases hc : 0 ≤ d
  · have bc : decide (0 ≤ d) = true := decide_eq_true hc
    go_wp2_with fail
    refine (shared_any a z _ ha hb).mono ?_
    rintro e w2 ⟨rfl, h2⟩
    go_wp2
    go_ret
    exact ⟨by unfold underN; rw [Hd.out, bc]; rfl, h1.trans (h2.mono hz1)⟩
  · have bc : decide (0 ≤ d) = false := decide_eq_false hc
    go_wp2
    go_ret
    exact ⟨by unfold underN; rw [Hd.out, bc]; rfl, h1⟩
end Go.Proofs.Ytihfapnipifiiaa
