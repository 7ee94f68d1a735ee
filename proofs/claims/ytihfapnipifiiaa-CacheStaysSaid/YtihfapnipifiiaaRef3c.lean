/- The walks of the reference of package name: Same, Under. -/
import Derived.Test.YtihfapnipifiiaaRef3b
namespace Go.Proofs.Ytihfapnipifiiaa
open Go Go.RowKit Go.Shelf

theorem cpl_le : ∀ (xs ys : List (List UInt8)), cpl xs ys ≤ xs.length ∧ cpl xs ys ≤ ys.length := by
  intro xs
  induction xs with
  | nil => intro ys; simp [cpl]
  | cons x xs ih =>
    intro ys
    cases ys with
    | nil => simp [cpl]
    | cons y ys =>
      unfold cpl
      split
      · have := ih ys; simp only [List.length_cons]; omega
      · simp
theorem cpl_full : ∀ (xs ys : List (List UInt8)), cpl xs ys = xs.length → cpl xs ys = ys.length → xs = ys := by
  intro xs
  induction xs with
  | nil => intro ys h1 h2; rw [h1] at h2; exact (List.eq_nil_of_length_eq_zero h2.symm).symm
  | cons x xs ih =>
    intro ys h1 h2
    cases ys with
    | nil => rw [h1] at h2; cases h2
    | cons y ys =>
      unfold cpl at h1 h2
      split at h1
      · rename_i e
        rw [if_pos e] at h2
        simp only [List.length_cons, Nat.add_right_cancel_iff] at h1 h2
        rw [e, ih ys h1 h2]
      · cases h1
theorem cpl_self : ∀ (xs : List (List UInt8)), cpl xs xs = xs.length := by
  intro xs
  induction xs with
  | nil => rfl
  | cons x xs ih => unfold cpl; rw [if_pos rfl, ih]; rfl

theorem sameN_eq (a b : List UInt8) : sameN a b = (decide (0 ≤ shared a b) && (shared a b == depth a) && (shared a b == depth b)) := by
  unfold sameN
  by_cases ca : chk a = 0
  · obtain ⟨⟨la, ea⟩, _⟩ := chk_zero ca
    rw [decide_eq_true ca, Bool.true_and]
    by_cases cb : chk b = 0
    · obtain ⟨⟨lb, eb⟩, _⟩ := chk_zero cb
      have ra : revlab a = (la.map low).reverse := by unfold revlab; rw [lab_low, ea]; rfl
      have rb : revlab b = (lb.map low).reverse := by unfold revlab; rw [lab_low, eb]; rfl
      unfold shared depth
      rw [if_pos ⟨ca, cb⟩, if_pos ca, if_pos cb, ea, eb, ra, rb]
      simp only [Option.map_some, Option.getD_some]
      rw [Bool.eq_iff_iff]
      simp only [beq_iff_eq, Bool.and_eq_true, decide_eq_true_eq]
      constructor
      · intro h
        have e : lab (low a) = lab (low b) := by rw [h]
        rw [lab_low, lab_low, ea, eb] at e
        simp only [Option.map_some, Option.some.injEq] at e
        rw [e, cpl_self]
        have := congrArg List.length e
        simp at this
        simp [this]
      · rintro ⟨⟨_, h1⟩, h2⟩
        have e := cpl_full (la.map low).reverse (lb.map low).reverse (by rw [List.length_reverse, List.length_map]; omega) (by rw [List.length_reverse, List.length_map]; omega)
        have e' : la.map low = lb.map low := by rw [← List.reverse_reverse (la.map low), e, List.reverse_reverse]
        exact lab_of_row _ (low a) (low b) rfl ⟨_, by rw [lab_low, ea]; rfl⟩ (by rw [lab_low, lab_low, ea, eb]; simp [e'])
    · have hs : shared a b = -1 := by unfold shared; rw [if_neg (fun h => cb h.2)]
      rw [hs]
      have : (low a == low b) = false := by
        rw [beq_eq_false_iff_ne]; intro h
        apply cb; rw [← chk_low b, ← h, chk_low, ca]
      rw [this]; rfl
  · have hs : shared a b = -1 := by unfold shared; rw [if_neg (fun h => ca h.1)]
    rw [hs, decide_eq_false ca]; rfl

theorem underN_eq (a z : List UInt8) : underN a z = (decide (0 ≤ shared a z) && (shared a z == depth z)) := by
  unfold underN
  by_cases h : shared a z = depth z
  · rw [h]
  · have : (shared a z == depth z) = false := beq_eq_false_iff_ne.2 h
    rw [this]; simp

set_option maxRecDepth 100000 in
set_option maxHeartbeats 1000000 in
theorem rsame_any (a b : ByteArray) (w : World) (ha : a.size ≤ 1099511627776) (hb : b.size ≤ 1099511627776) :
    Calls Try.prog 53 #[.string a, .string b] w fun e w' => e = .returned (.bool (sameN (lst a) (lst b))) ∧ Below w.heap.size w w' := by
  go_enter Try.func53, Try.ntmps53
  go_wp2_with fail
  refine (rshared_any a b _ ha hb).mono ?_
  rintro e w1 ⟨rfl, h1⟩
  have hz1 := h1.size
  have HS := Lib.hid (sameN_eq (lst a) (lst b))
  generalize hs : shared (lst a) (lst b) = n at *
  generalize hda : depth (lst a) = da at *
  generalize hdb : depth (lst b) = db at *
  have Hda := Lib.hid hda
  have Hdb := Lib.hid hdb
  clear hs hda hdb
  by_cases c1 : 0 ≤ n
  · have b1 : decide (0 ≤ n) = true := decide_eq_true c1
    go_wp2_with fail
    refine (rdepth_any a _ ha).mono ?_
    rw [Hda.out]
    rintro e w2 ⟨rfl, h2⟩
    have hz2 := h2.size
    by_cases c2 : n = da
    · have b2 : (n == da) = true := beq_iff_eq.2 c2
      have C2 := Lib.hid c2
      clear c2
      go_wp2_with fail
      refine (rdepth_any b _ hb).mono ?_
      rw [Hdb.out]
      rintro e w3 ⟨rfl, h3⟩
      go_wp2
      go_ret
      exact ⟨by rw [HS.out, b1, b2]; rfl, (h1.trans (h2.mono hz1)).trans (h3.mono (by omega))⟩
    · have b2 : (n == da) = false := beq_eq_false_iff_ne.2 c2
      go_wp2
      go_ret
      exact ⟨by rw [HS.out, b1, b2]; rfl, h1.trans (h2.mono hz1)⟩
  · have b1 : decide (0 ≤ n) = false := decide_eq_false c1
    go_wp2
    go_ret
    exact ⟨by rw [HS.out, b1]; rfl, h1⟩

set_option maxRecDepth 100000 in
theorem runder_any (a z : ByteArray) (w : World) (ha : a.size ≤ 1099511627776) (hb : z.size ≤ 1099511627776) :
    Calls Try.prog 28 #[.string a, .string z] w fun e w' => e = .returned (.bool (underN (lst a) (lst z))) ∧ Below w.heap.size w w' := by
  go_enter Try.func28, Try.ntmps28
  go_wp2_with fail
  refine (rshared_any a z _ ha hb).mono ?_
  rintro e w1 ⟨rfl, h1⟩
  have hz1 := h1.size
  have HS := Lib.hid (underN_eq (lst a) (lst z))
  generalize hs : shared (lst a) (lst z) = n at *
  generalize hdb : depth (lst z) = db at *
  have Hdb := Lib.hid hdb
  clear hs hdb
  by_cases c1 : 0 ≤ n
  · have b1 : decide (0 ≤ n) = true := decide_eq_true c1
    go_wp2_with fail
    refine (rdepth_any z _ hb).mono ?_
    rw [Hdb.out]
    rintro e w2 ⟨rfl, h2⟩
    go_wp2
    go_ret
    exact ⟨by rw [HS.out, b1]; rfl, h1.trans (h2.mono hz1)⟩
  · have b1 : decide (0 ≤ n) = false := decide_eq_false c1
    go_wp2
    go_ret
    exact ⟨by rw [HS.out, b1]; rfl, h1⟩
end Go.Proofs.Ytihfapnipifiiaa
