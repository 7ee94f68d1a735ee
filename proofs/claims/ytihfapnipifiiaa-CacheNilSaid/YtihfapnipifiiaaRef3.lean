/- The walks of the reference of package name. The walks of the reference of package name: Shared, Same, Under. The walks of the reference of package name: Same, Under. -/
import Derived.Test.YtihfapnipifiiaaName
import Derived.Deep.RegionHeld3
import Derived.IntWalk
set_option linter.unusedVariables false
set_option linter.unusedSimpArgs false
/- The walks of the reference of package name. -/
namespace Go.Proofs.Ytihfapnipifiiaa
open Go Go.RowKit Go.Shelf

/-- What 'row' hands back. -/
def RowPost (s : ByteArray) (w : World) (e : Ending) (w' : World) : Prop :=
  ∃ v ls, e = .returned (.tuple #[v, .bool (lab (lst s)).isSome]) ∧ Below w.heap.size w w' ∧ Strs w' w.heap.size v ls ∧ ((lab (lst s)).isSome = true → lab (lst s) = some ls)

theorem lab_back {l : List UInt8} {k : Nat} {ls : List (List UInt8)} (hl : lab l = (lab (l.drop k)).map (ls ++ ·)) (h : lab (l.drop k) = none) : lab l = none := by rw [hl, h]; rfl

set_option maxRecDepth 100000 in
set_option maxHeartbeats 1000000 in
theorem rrow_any (s : ByteArray) (w : World) (hs : s.size ≤ 1099511627776) :
    Calls Try.prog 83 #[.string s] w (RowPost s w) := by
  obtain ⟨i0, hi, hz0, hz1, hz2⟩ := info_parts info_string
  have hlen : (lst s).length = s.size := lst_length s
  have Hlen := Lib.hid hlen
  clear hlen
  go_enter Try.func83, Try.ntmps83
  go_wp2
  go_loopw [4, 5] (fun out at_ wr => ∃ (k : Nat) (ls : List (List UInt8)), at_ = .int .i64 k ∧ k ≤ s.size ∧ lab (lst s) = (lab ((lst s).drop k)).map (ls ++ ·) ∧ ls.length ≤ k ∧
       Strs wr w.heap.size out ls ∧ Below w.heap.size w wr)
     (fun _ i _ => s.size - (intOf i).toNat)
  case atStart => exact ⟨0, [], rfl, Nat.zero_le _, by simp, Nat.le_refl _, Strs.nil _ _, Below.refl _ _⟩
  case round =>
    obtain ⟨k, ls, rfl, hk, hl, hll, hown, hB⟩ := hrel
    have Hl := Lib.hid hl
    have Hown := Lib.hid hown
    have hsz := hB.size
    clear hl hown
    by_cases hlt : k < s.size
    · obtain ⟨c, hcv⟩ : ∃ c, s[k].toNat = c := ⟨_, rfl⟩
      have hc255 : c ≤ 255 := by have := s[k].toNat_lt; omega
      have Hget := Lib.hid (lst_get s k hlt)
      by_cases hc0 : c = 0
      · have h0 : ((c : Int) != 0) = false := by simp [hc0]
        have HL := Lib.hid (lab_zero (l := lst s) (k := k) (by rw [Hget.out]; congr 1; exact UInt8.toNat_inj.1 (by rw [hcv, hc0]; rfl)))
        clear hc0
        by_cases hend : k + 1 = s.size
        · have he : ((k : Int) == (s.size : Int) - 1) = true := by rw [beq_iff_eq]; omega
          have Hend := Lib.hid hend
          clear hend
          go_wp2
          go_ret2
          have e : lab (lst s) = some ls := by rw [Hl.out, HL.out, if_pos (by rw [Hlen.out]; exact Hend.out)]; simp
          exact ⟨_, ls, by rw [e]; rfl, hB, Hown.out, fun _ => e⟩
        · have he : ((k : Int) == (s.size : Int) - 1) = false := by rw [beq_eq_false_iff_ne]; omega
          have Hend := Lib.hid hend
          clear hend
          go_wp2
          go_ret2
          have e : lab (lst s) = none := by rw [Hl.out, HL.out, if_neg (by rw [Hlen.out]; exact Hend.out)]; rfl
          exact ⟨_, ls, by rw [e]; rfl, hB, Hown.out, fun h => by rw [e] at h; cases h⟩
      · have h0 : ((c : Int) != 0) = true := by simp [hc0]
        have Hc0 : Hid (s[k] ≠ 0) := Lib.hid (fun h => hc0 (by rw [← hcv, h]; rfl))
        clear hc0
        have Hcv := Lib.hid hcv
        by_cases hbad : 63 < c ∨ s.size < k + 1 + c
        · have e : lab (lst s) = none := lab_back Hl.out (lab_bad Hget.out Hc0.out (by rw [Hcv.out, Hlen.out]; exact hbad))
          have E := Lib.hid e
          clear e
          by_cases h63 : 63 < c
          · go_wp2
            go_ret2
            exact ⟨_, [], by rw [E.out]; rfl, hB, Strs.nil _ _, fun h => by rw [E.out] at h; cases h⟩
          · have hroom : s.size < k + 1 + c := by omega
            have h63' : c ≤ 63 := by omega
            clear hbad h63
            go_wp2
            go_ret2
            exact ⟨_, [], by rw [E.out]; rfl, hB, Strs.nil _ _, fun h => by rw [E.out] at h; cases h⟩
        · have h63 : c ≤ 63 := by omega
          have hroom : k + 1 + c ≤ s.size := by omega
          have HL := Lib.hid (lab_step Hget.out Hc0.out (by rw [Hcv.out]; exact h63) (by rw [Hcv.out, Hlen.out]; exact hroom))
          rw [Hcv.out] at HL
          clear hbad
          go_wp2_with (at_builtin; refine wpList_append_own _ rfl _ _ 47 rfl w.heap.size 9 i0 (.string ⟨#[]⟩) 1 16 Try.underlying47 hi hz0 hz1 hz2 rfl (by decide) _ _ _ rfl (Hown.out.alloc _) ⟨wr.heap.size, 0, none⟩ 1 1 [.string (s.extract (k+1) (k+1+c))] rfl rfl (cell_one_new _ _ _) ?c2 ?c3 ?c4 ?c5 ?_)
          case c2 => intro u hu; simp only [List.mem_singleton] at hu; subst hu; rfl
          case c3 => simp only [maxLen]; omega
          case c4 => omega
          case c5 => simp; omega
          intro v' w1 hown1 hgrow1 _
          have Hown1 := Lib.hid hown1
          have hB1 : Below w.heap.size w w1 := (hB.alloc hsz _).grown hgrow1 (by simp; omega) (fun k hk => (own_cells Hown.out k hk).1)
          clear hown1 hgrow1
          go_wp2
          go_roundw
          case rel =>
            refine ⟨k + 1 + c, ls ++ [((lst s).drop (k + 1)).take c], by go_num, hroom, ?_, by simp; omega, ?_, hB1⟩
            · rw [Hl.out, HL.out]; cases lab ((lst s).drop (k + 1 + c)) <;> simp
            · have := Hown1.out
              unfold Strs
              rw [extract_bs, show k + 1 + c - (k + 1) = c by omega] at this
              simpa using this
          case measure => simp [intOf]; omega
    · have e : lab (lst s) = none := lab_back Hl.out (lab_end (by rw [Hlen.out]; omega))
      have E := Lib.hid e
      have he : ((k : Int) == (s.size : Int) - 1) = false := by rw [beq_eq_false_iff_ne]; omega
      clear e
      go_wp2
      go_ret2
      exact ⟨_, ls, by rw [E.out]; rfl, hB, Hown.out, fun h => by rw [E.out] at h; cases h⟩

set_option maxRecDepth 100000 in
theorem rcheck_any (s : ByteArray) (w : World) (hs : s.size ≤ 1099511627776) :
    Calls Try.prog 39 #[.string s] w fun e w' => e = .returned (.int .i64 (chk (lst s))) ∧ Below w.heap.size w w' := by
  have hlen : (lst s).length = s.size := lst_length s
  have Hlen := Lib.hid hlen
  clear hlen
  go_enter Try.func39, Try.ntmps39
  go_wp2_with fail
  refine (rrow_any s _ hs).mono ?_
  rintro e w1 ⟨v, ls, rfl, h1, hst, hl⟩
  cases hlab : lab (lst s) with
  | none =>
    have Hlab := Lib.hid hlab
    clear hlab hl
    go_wp2
    go_ret
    exact ⟨by rw [chk_none Hlab.out]; rfl, h1⟩
  | some ls' =>
    have Hlab := Lib.hid hlab
    clear hlab hl
    by_cases hbig : 255 < s.size
    · go_wp2
      go_ret
      exact ⟨by rw [chk_big Hlab.out (by rw [Hlen.out]; exact hbig)]; rfl, h1⟩
    · go_wp2
      go_ret
      exact ⟨by rw [chk_ok Hlab.out (by rw [Hlen.out]; omega)]; rfl, h1⟩

set_option maxRecDepth 100000 in
theorem rlabels_any (s : ByteArray) (w : World) (hs : s.size ≤ 1099511627776) :
    Calls Try.prog 100 #[.string s] w (LabPost s w) := by
  go_enter Try.func100, Try.ntmps100
  go_wp2_with fail
  refine (rcheck_any s _ hs).mono ?_
  rintro e w1 ⟨rfl, h1⟩
  have hz1 := h1.size
  by_cases hc : chk (lst s) = 0
  · have hb : ((chk (lst s) : Int) != 0) = false := by rw [hc]; rfl
    have Hc := Lib.hid hc
    clear hc
    go_wp2_with fail
    refine (rrow_any s _ hs).mono ?_
    rintro e w2 ⟨v, ls, rfl, h2, hst, hl⟩
    have Hl := Lib.hid hl
    clear hl
    go_wp2
    go_ret2
    refine ⟨_, ls, by rw [Hc.out]; rfl, h1.trans (h2.mono hz1), hst.mono hz1, fun _ => Hl.out ?_, fun h => absurd Hc.out h⟩
    obtain ⟨⟨ls', e⟩, _⟩ := chk_zero Hc.out
    rw [e]; rfl
  · have hb : ((chk (lst s) : Int) != 0) = true := by rw [bne_iff_ne]; exact hc
    have Hc := Lib.hid hc
    clear hc
    go_wp2
    go_ret2
    exact ⟨_, [], rfl, h1, Strs.nil _ _, fun h => absurd h Hc.out, fun _ => rfl⟩

set_option maxRecDepth 100000 in
theorem rdepth_any (s : ByteArray) (w : World) (hs : s.size ≤ 1099511627776) :
    Calls Try.prog 66 #[.string s] w fun e w' => e = .returned (.int .i64 (depth (lst s))) ∧ Below w.heap.size w w' := by
  by_cases hc : chk (lst s) = 0
  · go_enter Try.func66, Try.ntmps66
    go_wp2_with (go_at_call 100; refine (rlabels_any s _ hs).mono ?_; rintro e w' ⟨v, ls, rfl, hb, hst, hl, hz⟩; have Hl := Lib.hid (hl hc); obtain ⟨A, cap, rfl⟩ := hst.shape; clear hl hz)
    go_ret
    exact ⟨by unfold depth; rw [if_pos hc, Hl.out]; rfl, hb⟩
  · have hne : ((chk (lst s) : Int) != 0) = true := by rw [bne_iff_ne]; exact hc
    have Hc := Lib.hid hc
    clear hc
    go_enter Try.func66, Try.ntmps66
    go_wp2_with (go_at_call 100; refine (rlabels_any s _ hs).mono ?_; rintro e w' ⟨v, ls, rfl, hb, hst, hl, hz⟩; clear hl hz)
    go_ret
    exact ⟨by unfold depth; rw [if_neg Hc.out]; rfl, hb⟩
end Go.Proofs.Ytihfapnipifiiaa
/- The walks of the reference of package name: Shared, Same, Under. -/
namespace Go.Proofs.Ytihfapnipifiiaa
open Go Go.RowKit Go.Shelf

theorem sameAt_rev (xs ys : List (List UInt8)) (k : Nat) : SameAt (xs.map low).reverse (ys.map low).reverse k =
    (decide (k < xs.length) && decide (k < ys.length) && (low (xs.getD (xs.length - 1 - k) []) == low (ys.getD (ys.length - 1 - k) []))) := by
  unfold SameAt
  simp only [List.length_reverse, List.length_map]
  by_cases h1 : k < xs.length
  · by_cases h2 : k < ys.length
    · have e : ∀ (l : List (List UInt8)), k < l.length → (l.map low).reverse.getD k [] = low (l.getD (l.length - 1 - k) []) := by
        intro l hl
        simp only [List.getD_eq_getElem?_getD]
        rw [List.getElem?_reverse (by simpa using hl), List.length_map, List.getElem?_map, List.getElem?_eq_getElem (by omega)]
        rfl
      rw [e xs h1, e ys h2]
    · simp [h2]
  · simp [h1]

theorem cpl_same (xs ys : List (List UInt8)) (k : Nat) (hall : ∀ i, i < k → SameAt xs ys i = true) (hnot : ¬ SameAt xs ys k = true) : cpl xs ys = k := by
  refine cpl_spec xs ys k ?_ ?_
  · intro i hi
    have := hall i hi
    unfold SameAt at this
    simp only [Bool.and_eq_true, decide_eq_true_eq, beq_iff_eq] at this
    exact ⟨this.1.1, this.1.2, this.2⟩
  · rintro ⟨i1, i2, i3⟩
    apply hnot
    unfold SameAt
    rw [i3]
    simp [i1, i2]
theorem held_call {a b : Addr} {v u : Value} {W0 W W' : World} (hb : Below W.heap.size W W') (h : W.cell? a = some v ∧ W.cell? b = some u ∧ Below W0.heap.size W0 W) : W'.cell? a = some v ∧ W'.cell? b = some u ∧ Below W0.heap.size W0 W' :=
  ⟨(hb.cell (blk_of_cell h.1)).trans h.1, (hb.cell (blk_of_cell h.2.1)).trans h.2.1, h.2.2.trans (hb.mono h.2.2.size)⟩

set_option maxRecDepth 100000 in
set_option maxHeartbeats 2000000 in
theorem rshared_any (a b : ByteArray) (w : World) (ha : a.size ≤ 1099511627776) (hb : b.size ≤ 1099511627776) :
    Calls Try.prog 65 #[.string a, .string b] w fun e w' => e = .returned (.int .i64 (shared (lst a) (lst b))) ∧ Below w.heap.size w w' := by
  have Hla := Lib.hid (lst_length a)
  have Hlb := Lib.hid (lst_length b)
  go_enter Try.func65, Try.ntmps65
  go_wp2_with fail
  refine (rlabels_any a _ ha).mono ?_
  rintro e w1 ⟨v, xs, rfl, h1, hx, hlx, hzx⟩
  have hz1 := h1.size
  go_wp2_with fail
  refine (rlabels_any b _ hb).mono ?_
  rintro e w2 ⟨u, ys, rfl, h2, hy, hly, hzy⟩
  have hz2 := h2.size
  have hx2 : Strs w2 w.heap.size v xs := hx.below h2
  have hB2 : Below w.heap.size w w2 := h1.trans (h2.mono hz1)
  have Hlx := Lib.hid hlx
  have Hly := Lib.hid hly
  clear hlx hly hzx hzy hx h1 h2
  by_cases hc : chk (lst a) = 0 ∧ chk (lst b) = 0
  · have Hc := Lib.hid hc
    have e1 : ((chk (lst a) : Int) != 0) = false := by rw [hc.1]; rfl
    have e2 : ((chk (lst b) : Int) != 0) = false := by rw [hc.2]; rfl
    have lx : xs.length ≤ 1099511627776 := by
      have := lab_len _ (Hlx.out hc.1); rw [lst_length] at this; omega
    have ly : ys.length ≤ 1099511627776 := by
      have := lab_len _ (Hly.out hc.2); rw [lst_length] at this; omega
    have bx : ∀ i, (xs.getD i []).length ≤ 140737488355328 := fun i => by have := lab_getD (Hlx.out hc.1) i; omega
    have by_ : ∀ i, (ys.getD i []).length ≤ 140737488355328 := fun i => by have := lab_getD (Hly.out hc.2) i; omega
    have Bx := Lib.hid bx
    have By := Lib.hid by_
    clear hc bx by_
    obtain ⟨A, ca, rfl⟩ := hx2.shape
    obtain ⟨A', ca', rfl⟩ := hy.shape
    have Hx := Lib.hid hx2
    have Hy := Lib.hid hy
    have HB2 := Lib.hid hB2
    clear hx2 hy hB2
    have Fin : Hid (∀ (k : Nat), (∀ i, i < k → SameAt (xs.map low).reverse (ys.map low).reverse i = true) → ¬ SameAt (xs.map low).reverse (ys.map low).reverse k = true → ∀ wr, Below w2.heap.size w2 wr →
        Ending.returned (.int .i64 (k : Int)) = .returned (.int .i64 (shared (lst a) (lst b))) ∧ Below w.heap.size w wr) := by
      intro k hall hnot wr hwr
      refine ⟨?_, HB2.out.trans (hwr.mono HB2.out.size)⟩
      unfold shared; rw [if_pos Hc.out]
      have e1 : revlab (lst a) = (xs.map low).reverse := by unfold revlab; rw [lab_low, Hlx.out Hc.out.1]; rfl
      have e2 : revlab (lst b) = (ys.map low).reverse := by unfold revlab; rw [lab_low, Hly.out Hc.out.2]; rfl
      rw [e1, e2, cpl_same _ _ k hall hnot]
    go_wp2
    go_loopw [9] (fun n_ wr => ∃ k : Nat, n_ = .int .i64 k ∧ (∀ i, i < k → SameAt (xs.map low).reverse (ys.map low).reverse i = true) ∧ k ≤ xs.length ∧ Below w2.heap.size w2 wr) (fun n_ _ => xs.length - (intOf n_).toNat)
    case atStart => exact ⟨0, rfl, fun i hi => absurd hi (Nat.not_lt_zero i), Nat.zero_le _, Below.refl _ _⟩
    case round =>
      obtain ⟨k, rfl, hall, hle, hwr⟩ := hrel
      have Hall := Lib.hid hall
      clear hall
      by_cases h1 : k < xs.length
      · by_cases h2 : k < ys.length
        · have b1 : decide (k < xs.length) = true := decide_eq_true h1
          have b2 : decide (k < ys.length) = true := decide_eq_true h2
          obtain ⟨jx, hjx⟩ : ∃ j : Nat, j = xs.length - 1 - k := ⟨_, rfl⟩
          obtain ⟨jy, hjy⟩ : ∃ j : Nat, j = ys.length - 1 - k := ⟨_, rfl⟩
          have lx2 : jx < xs.length := by omega
          have ly2 : jy < ys.length := by omega
          obtain ⟨gx, cx, ex, hcx⟩ := (Hx.out.below hwr).cellAt lx2
          obtain ⟨gy, cy, ey, hcy⟩ := (Hy.out.below hwr).cellAt ly2
          cases ex
          cases ey
          generalize hX : xs.getD jx [] = X at *
          generalize hY : ys.getD jy [] = Y at *
          have m1 : IntKind.i64.wrap ((xs.length : Int) - 1) = (xs.length : Int) - 1 := IntWalk.i64_in _ (by omega)
          have m2 : IntKind.i64.wrap ((xs.length : Int) - 1 - k) = jx := by rw [IntWalk.i64_in _ (by omega)]; omega
          have m3 : IntKind.i64.wrap ((ys.length : Int) - 1) = (ys.length : Int) - 1 := IntWalk.i64_in _ (by omega)
          have m4 : IntKind.i64.wrap ((ys.length : Int) - 1 - k) = jy := by rw [IntWalk.i64_in _ (by omega)]; omega
          have Hjx := Lib.hid hjx
          have Hjy := Lib.hid hjy
          have HX := Lib.hid hX
          have HY := Lib.hid hY
          have sx : (bs X).size ≤ 140737488355328 := by rw [bs_size, ← hX]; exact Bx.out _
          have sy : (bs Y).size ≤ 140737488355328 := by rw [bs_size, ← hY]; exact By.out _
          clear hjx hjy hX hY
          have hsame : SameAt (xs.map low).reverse (ys.map low).reverse k = (low X == low Y) := by
            rw [sameAt_rev, b1, b2, ← Hjx.out, ← Hjy.out, HX.out, HY.out]; rfl
          have Hsame := Lib.hid hsame
          clear hsame
          by_cases hXY : (low X == low Y) = true
          · have HXY := Lib.hid hXY
            have bt : ((bs (low (lst (bs X)))).toList == (bs (low (lst (bs Y)))).toList) = true := by rw [toList_bs, toList_bs, lst_bs, lst_bs]; exact hXY
            clear hXY
            go_wp2
            go_region_held3 (fun w' => w'.cell? ⟨gx, jx, none⟩ = some (.string (bs X)) ∧ w'.cell? ⟨gy, jy, none⟩ = some (.string (bs Y)) ∧ Below w2.heap.size w2 w') (first | exact ⟨hcx, hcy, hwr.drew⟩ | assumption | (refine ⟨?_, ?_, ?_⟩ <;> assumption))
               (first | (go_at_call 24; refine (rlower_any _ _ ?_).mono ?_; assumption; rintro e w' ⟨rfl, hb'⟩; have hS' := held_call (W0 := w2) hb' (by first | assumption | (refine ⟨?_, ?_, ?_⟩ <;> assumption))))
            go_wp2
            clear m1 m2 m3 m4
            go_roundw
            case rel => exact ⟨k + 1, by go_num, fun i hi => by
              by_cases e : i = k
              · rw [e, Hsame.out]; exact HXY.out
              · exact Hall.out i (by omega), by omega, hS'.2.2⟩
            case measure => simp [intOf]; omega
          · have hXY' : (low X == low Y) = false := by simpa using hXY
            have HXY := Lib.hid hXY'
            have bt : ((bs (low (lst (bs X)))).toList == (bs (low (lst (bs Y)))).toList) = false := by rw [toList_bs, toList_bs, lst_bs, lst_bs]; exact hXY'
            clear hXY hXY'
            go_wp2
            go_region_held3 (fun w' => w'.cell? ⟨gx, jx, none⟩ = some (.string (bs X)) ∧ w'.cell? ⟨gy, jy, none⟩ = some (.string (bs Y)) ∧ Below w2.heap.size w2 w') (first | exact ⟨hcx, hcy, hwr.drew⟩ | assumption | (refine ⟨?_, ?_, ?_⟩ <;> assumption))
               (first | (go_at_call 24; refine (rlower_any _ _ ?_).mono ?_; assumption; rintro e w' ⟨rfl, hb'⟩; have hS' := held_call (W0 := w2) hb' (by first | assumption | (refine ⟨?_, ?_, ?_⟩ <;> assumption))))
            go_wp2
            clear m1 m2 m3 m4
            go_ret
            exact Fin.out k Hall.out (by rw [Hsame.out, HXY.out]; simp) _ hS'.2.2
        · have b1 : decide (k < xs.length) = true := decide_eq_true h1
          have b2 : decide (k < ys.length) = false := decide_eq_false h2
          have Hf : Hid (SameAt (xs.map low).reverse (ys.map low).reverse k = false) := by
            show SameAt (xs.map low).reverse (ys.map low).reverse k = false
            rw [sameAt_rev, b1, b2]; rfl
          go_wp2
          go_quiet (fail)
          go_wp2
          go_ret
          exact Fin.out k Hall.out (by rw [Hf.out]; simp) _ (pw_drewN hwr _)
      · have b1 : decide (k < xs.length) = false := decide_eq_false h1
        have Hf : Hid (SameAt (xs.map low).reverse (ys.map low).reverse k = false) := by
          show SameAt (xs.map low).reverse (ys.map low).reverse k = false
          rw [sameAt_rev, b1]; rfl
        go_wp2
        go_quiet (fail)
        go_wp2
        go_ret
        exact Fin.out k Hall.out (by rw [Hf.out]; simp) _ (pw_drewN hwr _)
  · by_cases ca : chk (lst a) = 0
    · have e1 : ((chk (lst a) : Int) != 0) = false := by rw [ca]; rfl
      have cb : chk (lst b) ≠ 0 := fun h => hc ⟨ca, h⟩
      have e2 : ((chk (lst b) : Int) != 0) = true := by rw [bne_iff_ne]; exact cb
      have Hc := Lib.hid hc
      clear hc ca cb
      go_wp2
      go_ret
      exact ⟨by unfold shared; rw [if_neg Hc.out]; rfl, hB2⟩
    · have e1 : ((chk (lst a) : Int) != 0) = true := by rw [bne_iff_ne]; exact ca
      have Hc := Lib.hid hc
      clear hc ca
      go_wp2
      go_ret
      exact ⟨by unfold shared; rw [if_neg Hc.out]; rfl, hB2⟩

theorem lab_of_row : ∀ (n : Nat) (l l' : List UInt8), l.length = n → (∃ ls, lab l = some ls) → lab l = lab l' → l = l' := by
  intro n
  induction n using Nat.strongRecOn with
  | _ n ih =>
    intro l l' hl h1 he
    obtain ⟨ls, h1⟩ := h1
    cases l with
    | nil => rw [lab_nil] at h1; cases h1
    | cons c r =>
      cases l' with
      | nil => rw [h1, lab_nil] at he; cases he
      | cons c' r' =>
        rw [h1] at he
        rw [lab] at h1 he
        have z : ∀ {c : UInt8}, c ≠ 0 → 1 ≤ c.toNat := by
          intro c h0
          rcases Nat.eq_zero_or_pos c.toNat with e | e
          · exact absurd (UInt8.toNat_inj.1 (by rw [e]; rfl)) h0
          · exact e
        by_cases h0 : c = 0
        · rw [if_pos h0] at h1
          split at h1
          · rename_i hr
            cases h1
            by_cases h0' : c' = 0
            · rw [if_pos h0'] at he
              split at he
              · rename_i hr'; rw [h0, h0', hr, hr']
              · cases he
            · rw [if_neg h0'] at he
              split at he
              · cases he
              · cases hd : lab (r'.drop c'.toNat) <;> rw [hd] at he <;> cases he
          · cases h1
        · rw [if_neg h0] at h1
          split at h1
          · cases h1
          · rename_i hb
            cases hd : lab (r.drop c.toNat) with
            | none => rw [hd] at h1; cases h1
            | some ms =>
              rw [hd] at h1; cases h1
              by_cases h0' : c' = 0
              · rw [if_pos h0'] at he
                split at he
                · cases he
                · cases he
              · rw [if_neg h0'] at he
                split at he
                · cases he
                · rename_i hb'
                  cases hd' : lab (r'.drop c'.toNat) with
                  | none => rw [hd'] at he; cases he
                  | some ms' =>
                    rw [hd'] at he
                    simp only [Option.map_some, Option.some.injEq, List.cons.injEq] at he
                    obtain ⟨e1, e2⟩ := he
                    have el := congrArg List.length e1
                    rw [List.length_take, List.length_take, Nat.min_eq_left (by omega), Nat.min_eq_left (by omega)] at el
                    have ec : c = c' := UInt8.toNat_inj.1 el
                    have er := ih (r.drop c.toNat).length (by simp only [List.length_drop, List.length_cons] at hl ⊢; omega) (r.drop c.toNat) (r'.drop c'.toNat) rfl ⟨ms, hd⟩ (by rw [hd, hd', e2])
                    subst ec
                    rw [← List.take_append_drop c.toNat r, ← List.take_append_drop c.toNat r', e1, er]
end Go.Proofs.Ytihfapnipifiiaa
/- The walks of the reference of package name: Same, Under. -/
namespace Go.Proofs.Ytihfapnipifiiaa
open Go Go.RowKit Go.Shelf

theorem cpl_le : ∀ (xs ys : List (List UInt8)), cpl xs ys ≤ xs.length ∧ cpl xs ys ≤ ys.length := by
  intro xs
  induction xs with
  | nil => intro ys; simp [cpl]
  | cons x xs ih =>
    intro ys
    cases ys with
    | nil => simp [cpl]
    | cons y ys =>
      unfold cpl
      split
      · have := ih ys; simp only [List.length_cons]; omega
      · simp
theorem cpl_full : ∀ (xs ys : List (List UInt8)), cpl xs ys = xs.length → cpl xs ys = ys.length → xs = ys := by
  intro xs
  induction xs with
  | nil => intro ys h1 h2; rw [h1] at h2; exact (List.eq_nil_of_length_eq_zero h2.symm).symm
  | cons x xs ih =>
    intro ys h1 h2
    cases ys with
    | nil => rw [h1] at h2; cases h2
    | cons y ys =>
      unfold cpl at h1 h2
      split at h1
      · rename_i e
        rw [if_pos e] at h2
        simp only [List.length_cons, Nat.add_right_cancel_iff] at h1 h2
        rw [e, ih ys h1 h2]
      · cases h1
theorem cpl_self : ∀ (xs : List (List UInt8)), cpl xs xs = xs.length := by
  intro xs
  induction xs with
  | nil => rfl
  | cons x xs ih => unfold cpl; rw [if_pos rfl, ih]; rfl

theorem sameN_eq (a b : List UInt8) : sameN a b = (decide (0 ≤ shared a b) && (shared a b == depth a) && (shared a b == depth b)) := by
  unfold sameN
  by_cases ca : chk a = 0
  · obtain ⟨⟨la, ea⟩, _⟩ := chk_zero ca
    rw [decide_eq_true ca, Bool.true_and]
    by_cases cb : chk b = 0
    · obtain ⟨⟨lb, eb⟩, _⟩ := chk_zero cb
      have ra : revlab a = (la.map low).reverse := by unfold revlab; rw [lab_low, ea]; rfl
      have rb : revlab b = (lb.map low).reverse := by unfold revlab; rw [lab_low, eb]; rfl
      unfold shared depth
      rw [if_pos ⟨ca, cb⟩, if_pos ca, if_pos cb, ea, eb, ra, rb]
      simp only [Option.map_some, Option.getD_some]
      rw [Bool.eq_iff_iff]
      simp only [beq_iff_eq, Bool.and_eq_true, decide_eq_true_eq]
      constructor
      · intro h
        have e : lab (low a) = lab (low b) := by rw [h]
        rw [lab_low, lab_low, ea, eb] at e
        simp only [Option.map_some, Option.some.injEq] at e
        rw [e, cpl_self]
        have := congrArg List.length e
        simp at this
        simp [this]
      · rintro ⟨⟨_, h1⟩, h2⟩
        have e := cpl_full (la.map low).reverse (lb.map low).reverse (by rw [List.length_reverse, List.length_map]; omega) (by rw [List.length_reverse, List.length_map]; omega)
        have e' : la.map low = lb.map low := by rw [← List.reverse_reverse (la.map low), e, List.reverse_reverse]
        exact lab_of_row _ (low a) (low b) rfl ⟨_, by rw [lab_low, ea]; rfl⟩ (by rw [lab_low, lab_low, ea, eb]; simp [e'])
    · have hs : shared a b = -1 := by unfold shared; rw [if_neg (fun h => cb h.2)]
      rw [hs]
      have : (low a == low b) = false := by
        rw [beq_eq_false_iff_ne]; intro h
        apply cb; rw [← chk_low b, ← h, chk_low, ca]
      rw [this]; rfl
  · have hs : shared a b = -1 := by unfold shared; rw [if_neg (fun h => ca h.1)]
    rw [hs, decide_eq_false ca]; rfl

theorem underN_eq (a z : List UInt8) : underN a z = (decide (0 ≤ shared a z) && (shared a z == depth z)) := by
  unfold underN
  by_cases h : shared a z = depth z
  · rw [h]
  · have : (shared a z == depth z) = false := beq_eq_false_iff_ne.2 h
    rw [this]; simp

set_option maxRecDepth 100000 in
set_option maxHeartbeats 1000000 in
theorem rsame_any (a b : ByteArray) (w : World) (ha : a.size ≤ 1099511627776) (hb : b.size ≤ 1099511627776) :
    Calls Try.prog 53 #[.string a, .string b] w fun e w' => e = .returned (.bool (sameN (lst a) (lst b))) ∧ Below w.heap.size w w' := by
  go_enter Try.func53, Try.ntmps53
  go_wp2_with fail
  refine (rshared_any a b _ ha hb).mono ?_
  rintro e w1 ⟨rfl, h1⟩
  have hz1 := h1.size
  have HS := Lib.hid (sameN_eq (lst a) (lst b))
  generalize hs : shared (lst a) (lst b) = n at *
  generalize hda : depth (lst a) = da at *
  generalize hdb : depth (lst b) = db at *
  have Hda := Lib.hid hda
  have Hdb := Lib.hid hdb
  clear hs hda hdb
  by_cases c1 : 0 ≤ n
  · have b1 : decide (0 ≤ n) = true := decide_eq_true c1
    go_wp2_with fail
    refine (rdepth_any a _ ha).mono ?_
    rw [Hda.out]
    rintro e w2 ⟨rfl, h2⟩
    have hz2 := h2.size
    by_cases c2 : n = da
    · have b2 : (n == da) = true := beq_iff_eq.2 c2
      have C2 := Lib.hid c2
      clear c2
      go_wp2_with fail
      refine (rdepth_any b _ hb).mono ?_
      rw [Hdb.out]
      rintro e w3 ⟨rfl, h3⟩
      go_wp2
      go_ret
      exact ⟨by rw [HS.out, b1, b2]; rfl, (h1.trans (h2.mono hz1)).trans (h3.mono (by omega))⟩
    · have b2 : (n == da) = false := beq_eq_false_iff_ne.2 c2
      go_wp2
      go_ret
      exact ⟨by rw [HS.out, b1, b2]; rfl, h1.trans (h2.mono hz1)⟩
  · have b1 : decide (0 ≤ n) = false := decide_eq_false c1
    go_wp2
    go_ret
    exact ⟨by rw [HS.out, b1]; rfl, h1⟩

set_option maxRecDepth 100000 in
theorem runder_any (a z : ByteArray) (w : World) (ha : a.size ≤ 1099511627776) (hb : z.size ≤ 1099511627776) :
    Calls Try.prog 28 #[.string a, .string z] w fun e w' => e = .returned (.bool (underN (lst a) (lst z))) ∧ Below w.heap.size w w' := by
  go_enter Try.func28, Try.ntmps28
  go_wp2_with fail
  refine (rshared_any a z _ ha hb).mono ?_
  rintro e w1 ⟨rfl, h1⟩
  have hz1 := h1.size
  have HS := Lib.hid (underN_eq (lst a) (lst z))
  generalize hs : shared (lst a) (lst z) = n at *
  generalize hdb : depth (lst z) = db at *
  have Hdb := Lib.hid hdb
  clear hs hdb
  by_cases c1 : 0 ≤ n
  · have b1 : decide (0 ≤ n) = true := decide_eq_true c1
    go_wp2_with fail
    refine (rdepth_any z _ hb).mono ?_
    rw [Hdb.out]
    rintro e w2 ⟨rfl, h2⟩
    go_wp2
    go_ret
    exact ⟨by rw [HS.out, b1]; rfl, h1.trans (h2.mono hz1)⟩
  · have b1 : decide (0 ≤ n) = false := decide_eq_false c1
    go_wp2
    go_ret
    exact ⟨by rw [HS.out, b1]; rfl, h1⟩
end Go.Proofs.Ytihfapnipifiiaa
