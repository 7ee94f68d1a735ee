/- The walks of the reference of package name: Shared, Same, Under. -/
import Derived.Test.YtihfapnipifiiaaRef3
import Derived.IntWalk
namespace Go.Proofs.Ytihfapnipifiiaa
open Go Go.RowKit Go.Shelf

theorem sameAt_rev (xs ys : List (List UInt8)) (k : Nat) : SameAt (xs.map low).reverse (ys.map low).reverse k =
    (decide (k < xs.length) && decide (k < ys.length) && (low (xs.getD (xs.length - 1 - k) []) == low (ys.getD (ys.length - 1 - k) []))) := by
  unfold SameAt
  simp only [List.length_reverse, List.length_map]
  by_cases h1 : k < xs.length
  · by_cases h2 : k < ys.length
    · have e : ∀ (l : List (List UInt8)), k < l.length → (l.map low).reverse.getD k [] = low (l.getD (l.length - 1 - k) []) := by
        intro l hl
        simp only [List.getD_eq_getElem?_getD]
        rw [List.getElem?_reverse (by simpa using hl), List.length_map, List.getElem?_map, List.getElem?_eq_getElem (by omega)]
        rfl
      rw [e xs h1, e ys h2]
    · simp [h2]
  · simp [h1]

theorem cpl_same (xs ys : List (List UInt8)) (k : Nat) (hall : ∀ i, i < k → SameAt xs ys i = true) (hnot : ¬ SameAt xs ys k = true) : cpl xs ys = k := by
  refine cpl_spec xs ys k ?_ ?_
  · intro i hi
    have := hall i hi
    unfold SameAt at this
    simp only [Bool.and_eq_true, decide_eq_true_eq, beq_iff_eq] at this
    exact ⟨this.1.1, this.1.2, this.2⟩
  · rintro ⟨i1, i2, i3⟩
    apply hnot
    unfold SameAt
    rw [i3]
    simp [i1, i2]
theorem held_call {a b : Addr} {v u : Value} {W0 W W' : World} (hb : Below W.heap.size W W') (h : W.cell? a = some v ∧ W.cell? b = some u ∧ Below W0.heap.size W0 W) : W'.cell? a = some v ∧ W'.cell? b = some u ∧ Below W0.heap.size W0 W' :=
  ⟨(hb.cell (blk_of_cell h.1)).trans h.1, (hb.cell (blk_of_cell h.2.1)).trans h.2.1, h.2.2.trans (hb.mono h.2.2.size)⟩

set_option maxRecDepth 100000 in
set_option maxHeartbeats 2000000 in
theorem rshared_any (a b : ByteArray) (w : World) (ha : a.size ≤ 1099511627776) (hb : b.size ≤ 1099511627776) :
    Calls Try.prog 65 #[.string a, .string b] w fun e w' => e = .returned (.int .i64 (shared (lst a) (lst b))) ∧ Below w.heap.size w w' := by
  have Hla := Lib.hid (lst_length a)
  have Hlb := Lib.hid (lst_length b)
  go_enter Try.func65, Try.ntmps65
  go_wp2_with fail
  refine (rlabels_any a _ ha).mono ?_
  rintro e w1 ⟨v, xs, rfl, h1, hx, hlx, hzx⟩
  have hz1 := h1.size
  go_wp2_with fail
  refine (rlabels_any b _ hb).mono ?_
  rintro e w2 ⟨u, ys, rfl, h2, hy, hly, hzy⟩
  have hz2 := h2.size
  have hx2 : Strs w2 w.heap.size v xs := hx.below h2
  have hB2 : Below w.heap.size w w2 := h1.trans (h2.mono hz1)
  have Hlx := Lib.hid hlx
  have Hly := Lib.hid hly
  clear hlx hly hzx hzy hx h1 h2
  by_cases hc : chk (lst a) = 0 ∧ chk (lst b) = 0
  · have Hc := Lib.hid hc
    have e1 : ((chk (lst a) : Int) != 0) = false := by rw [hc.1]; rfl
    have e2 : ((chk (lst b) : Int) != 0) = false := by rw [hc.2]; rfl
    have lx : xs.length ≤ 1099511627776 := by
      have := lab_len _ (Hlx.out hc.1); rw [lst_length] at this; omega
    have ly : ys.length ≤ 1099511627776 := by
      have := lab_len _ (Hly.out hc.2); rw [lst_length] at this; omega
    have bx : ∀ i, (xs.getD i []).length ≤ 140737488355328 := fun i => by have := lab_getD (Hlx.out hc.1) i; omega
    have by_ : ∀ i, (ys.getD i []).length ≤ 140737488355328 := fun i => by have := lab_getD (Hly.out hc.2) i; omega
    have Bx := Lib.hid bx
    have By := Lib.hid by_
    clear hc bx by_
    obtain ⟨A, ca, rfl⟩ := hx2.shape
    obtain ⟨A', ca', rfl⟩ := hy.shape
    have Hx := Lib.hid hx2
    have Hy := Lib.hid hy
    have HB2 := Lib.hid hB2
    clear hx2 hy hB2
    have Fin : Hid (∀ (k : Nat), (∀ i, i < k → SameAt (xs.map low).reverse (ys.map low).reverse i = true) → ¬ SameAt (xs.map low).reverse (ys.map low).reverse k = true → ∀ wr, Below w2.heap.size w2 wr →
        Ending.returned (.int .i64 (k : Int)) = .returned (.int .i64 (shared (lst a) (lst b))) ∧ Below w.heap.size w wr) := by
      intro k hall hnot wr hwr
      refine ⟨?_, HB2.out.trans (hwr.mono HB2.out.size)⟩
      unfold shared; rw [if_pos Hc.out]
      have e1 : revlab (lst a) = (xs.map low).reverse := by unfold revlab; rw [lab_low, Hlx.out Hc.out.1]; rfl
      have e2 : revlab (lst b) = (ys.map low).reverse := by unfold revlab; rw [lab_low, Hly.out Hc.out.2]; rfl
      rw [e1, e2, cpl_same _ _ k hall hnot]
    go_wp2
    go_loopw [9] (fun n_ wr => ∃ k : Nat, n_ = .int .i64 k ∧ (∀ i, i < k → SameAt (xs.map low).reverse (ys.map low).reverse i = true) ∧ k ≤ xs.length ∧ Below w2.heap.size w2 wr) (fun n_ _ => xs.length - (intOf n_).toNat)
    case atStart => exact ⟨0, rfl, fun i hi => absurd hi (Nat.not_lt_zero i), Nat.zero_le _, Below.refl _ _⟩
    case round =>
      obtain ⟨k, rfl, hall, hle, hwr⟩ := hrel
      have Hall := Lib.hid hall
      clear hall
      by_cases h1 : k < xs.length
      · by_cases h2 : k < ys.length
        · have b1 : decide (k < xs.length) = true := decide_eq_true h1
          have b2 : decide (k < ys.length) = true := decide_eq_true h2
          obtain ⟨jx, hjx⟩ : ∃ j : Nat, j = xs.length - 1 - k := ⟨_, rfl⟩
          obtain ⟨jy, hjy⟩ : ∃ j : Nat, j = ys.length - 1 - k := ⟨_, rfl⟩
          have lx2 : jx < xs.length := by omega
          have ly2 : jy < ys.length := by omega
          obtain ⟨gx, cx, ex, hcx⟩ := (Hx.out.below hwr).cellAt lx2
          obtain ⟨gy, cy, ey, hcy⟩ := (Hy.out.below hwr).cellAt ly2
          cases ex
          cases ey
          generalize hX : xs.getD jx [] = X at *
          generalize hY : ys.getD jy [] = Y at *
          have m1 : IntKind.i64.wrap ((xs.length : Int) - 1) = (xs.length : Int) - 1 := IntWalk.i64_in _ (by omega)
          have m2 : IntKind.i64.wrap ((xs.length : Int) - 1 - k) = jx := by rw [IntWalk.i64_in _ (by omega)]; omega
          have m3 : IntKind.i64.wrap ((ys.length : Int) - 1) = (ys.length : Int) - 1 := IntWalk.i64_in _ (by omega)
          have m4 : IntKind.i64.wrap ((ys.length : Int) - 1 - k) = jy := by rw [IntWalk.i64_in _ (by omega)]; omega
          have Hjx := Lib.hid hjx
          have Hjy := Lib.hid hjy
          have HX := Lib.hid hX
          have HY := Lib.hid hY
          have sx : (bs X).size ≤ 140737488355328 := by rw [bs_size, ← hX]; exact Bx.out _
          have sy : (bs Y).size ≤ 140737488355328 := by rw [bs_size, ← hY]; exact By.out _
          clear hjx hjy hX hY
          have hsame : SameAt (xs.map low).reverse (ys.map low).reverse k = (low X == low Y) := by
            rw [sameAt_rev, b1, b2, ← Hjx.out, ← Hjy.out, HX.out, HY.out]; rfl
          have Hsame := Lib.hid hsame
          clear hsame
          by_cases hXY : (low X == low Y) = true
          · have HXY := Lib.hid hXY
            have bt : ((bs (low (lst (bs X)))).toList == (bs (low (lst (bs Y)))).toList) = true := by rw [toList_bs, toList_bs, lst_bs, lst_bs]; exact hXY
            clear hXY
            go_wp2
            go_region_held3 (fun w' => w'.cell? ⟨gx, jx, none⟩ = some (.string (bs X)) ∧ w'.cell? ⟨gy, jy, none⟩ = some (.string (bs Y)) ∧ Below w2.heap.size w2 w') (first | exact ⟨hcx, hcy, hwr.drew⟩ | assumption | (refine ⟨?_, ?_, ?_⟩ <;> assumption))
               (first | (go_at_call 24; refine (rlower_any _ _ ?_).mono ?_; assumption; rintro e w' ⟨rfl, hb'⟩; have hS' := held_call (W0 := w2) hb' (by first | assumption | (refine ⟨?_, ?_, ?_⟩ <;> assumption))))
            go_wp2
            clear m1 m2 m3 m4
            go_roundw
            case rel => exact ⟨k + 1, by go_num, fun i hi => by
              by_cases e : i = k
              · rw [e, Hsame.out]; exact HXY.out
              · exact Hall.out i (by omega), by omega, hS'.2.2⟩
            case measure => simp [intOf]; omega
          · have hXY' : (low X == low Y) = false := by simpa using hXY
            have HXY := Lib.hid hXY'
            have bt : ((bs (low (lst (bs X)))).toList == (bs (low (lst (bs Y)))).toList) = false := by rw [toList_bs, toList_bs, lst_bs, lst_bs]; exact hXY'
            clear hXY hXY'
            go_wp2
            go_region_held3 (fun w' => w'.cell? ⟨gx, jx, none⟩ = some (.string (bs X)) ∧ w'.cell? ⟨gy, jy, none⟩ = some (.string (bs Y)) ∧ Below w2.heap.size w2 w') (first | exact ⟨hcx, hcy, hwr.drew⟩ | assumption | (refine ⟨?_, ?_, ?_⟩ <;> assumption))
               (first | (go_at_call 24; refine (rlower_any _ _ ?_).mono ?_; assumption; rintro e w' ⟨rfl, hb'⟩; have hS' := held_call (W0 := w2) hb' (by first | assumption | (refine ⟨?_, ?_, ?_⟩ <;> assumption))))
            go_wp2
            clear m1 m2 m3 m4
            go_ret
            exact Fin.out k Hall.out (by rw [Hsame.out, HXY.out]; simp) _ hS'.2.2
        · have b1 : decide (k < xs.length) = true := decide_eq_true h1
          have b2 : decide (k < ys.length) = false := decide_eq_false h2
          have Hf : Hid (SameAt (xs.map low).reverse (ys.map low).reverse k = false) := by
            show SameAt (xs.map low).reverse (ys.map low).reverse k = false
            rw [sameAt_rev, b1, b2]; rfl
          go_wp2
          go_quiet (fail)
          go_wp2
          go_ret
          exact Fin.out k Hall.out (by rw [Hf.out]; simp) _ (pw_drewN hwr _)
      · have b1 : decide (k < xs.length) = false := decide_eq_false h1
        have Hf : Hid (SameAt (xs.map low).reverse (ys.map low).reverse k = false) := by
          show SameAt (xs.map low).reverse (ys.map low).reverse k = false
          rw [sameAt_rev, b1]; rfl
        go_wp2
        go_quiet (fail)
        go_wp2
        go_ret
        exact Fin.out k Hall.out (by rw [Hf.out]; simp) _ (pw_drewN hwr _)
  · by_cases ca : chk (lst a) = 0
    · have e1 : ((chk (lst a) : Int) != 0) = false := by rw [ca]; rfl
      have cb : chk (lst b) ≠ 0 := fun h => hc ⟨ca, h⟩
      have e2 : ((chk (lst b) : Int) != 0) = true := by rw [bne_iff_ne]; exact cb
      have Hc := Lib.hid hc
      clear hc ca cb
      go_wp2
      go_ret
      exact ⟨by unfold shared; rw [if_neg Hc.out]; rfl, hB2⟩
    · have e1 : ((chk (lst a) : Int) != 0) = true := by rw [bne_iff_ne]; exact ca
      have Hc := Lib.hid hc
      clear hc ca
      go_wp2
      go_ret
      exact ⟨by unfold shared; rw [if_neg Hc.out]; rfl, hB2⟩

theorem lab_of_row : ∀ (n : Nat) (l l' : List UInt8), l.length = n → (∃ ls, lab l = some ls) → lab l = lab l' → l = l' := by
  intro n
  induction n using Nat.strongRecOn with
  | _ n ih =>
    intro l l' hl h1 he
    obtain ⟨ls, h1⟩ := h1
    cases l with
    | nil => rw [lab_nil] at h1; cases h1
    | cons c r =>
      cases l' with
      | nil => rw [h1, lab_nil] at he; cases he
      | cons c' r' =>
        rw [h1] at he
        rw [lab] at h1 he
        have z : ∀ {c : UInt8}, c ≠ 0 → 1 ≤ c.toNat := by
          intro c h0
          rcases Nat.eq_zero_or_pos c.toNat with e | e
          · exact absurd (UInt8.toNat_inj.1 (by rw [e]; rfl)) h0
          · exact e
        by_cases h0 : c = 0
        · rw [if_pos h0] at h1
          split at h1
          · rename_i hr
            cases h1
            by_cases h0' : c' = 0
            · rw [if_pos h0'] at he
              split at he
              · rename_i hr'; rw [h0, h0', hr, hr']
              · cases he
            · rw [if_neg h0'] at he
              split at he
              · cases he
              · cases hd : lab (r'.drop c'.toNat) <;> rw [hd] at he <;> cases he
          · cases h1
        · rw [if_neg h0] at h1
          split at h1
          · cases h1
          · rename_i hb
            cases hd : lab (r.drop c.toNat) with
            | none => rw [hd] at h1; cases h1
            | some ms =>
              rw [hd] at h1; cases h1
              by_cases h0' : c' = 0
              · rw [if_pos h0'] at he
                split at he
                · cases he
                · cases he
              · rw [if_neg h0'] at he
                split at he
                · cases he
                · rename_i hb'
                  cases hd' : lab (r'.drop c'.toNat) with
                  | none => rw [hd'] at he; cases he
                  | some ms' =>
                    rw [hd'] at he
                    simp only [Option.map_some, Option.some.injEq, List.cons.injEq] at he
                    obtain ⟨e1, e2⟩ := he
                    have el := congrArg List.length e1
                    rw [List.length_take, List.length_take, Nat.min_eq_left (by omega), Nat.min_eq_left (by omega)] at el
                    have ec : c = c' := UInt8.toNat_inj.1 el
                    have er := ih (r.drop c.toNat).length (by simp only [List.length_drop, List.length_cons] at hl ⊢; omega) (r.drop c.toNat) (r'.drop c'.toNat) rfl ⟨ms, hd⟩ (by rw [hd, hd', e2])
                    subst ec
                    rw [← List.take_append_drop c.toNat r, ← List.take_append_drop c.toNat r', e1, er]
end Go.Proofs.Ytihfapnipifiiaa
