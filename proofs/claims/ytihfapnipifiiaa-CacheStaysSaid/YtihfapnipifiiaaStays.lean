/- The walk of CacheStays. -/
import Derived.Test.YtihfapnipifiiaaAwake
namespace Go.Proofs.Ytihfapnipifiiaa
open Go Go.RowKit Go.Shelf

theorem tmod_bounds (a : Int) (k : Nat) (hk : 0 < k) : -(k : Int) < a.tmod k ∧ a.tmod k < k := by
  have h1 := Int.tmod_lt_of_pos a (show (0 : Int) < k by omega)
  have h2 := Int.lt_tmod_of_pos a (show (0 : Int) < k by omega)
  omega

/-- The others' bytes. -/
def oth (j : Nat) : UInt8 := UInt8.ofNat (130 + j)
theorem oth_nat {j : Nat} (h : j ≤ 100) : (oth j).toNat = 130 + j := by unfold oth; simp; omega
theorem oth_low {j : Nat} (h : j ≤ 100) : lowB (oth j) = oth j := by
  unfold lowB
  rw [if_neg]
  rintro ⟨_, h2⟩
  have := UInt8.le_iff_toNat_le.1 h2
  rw [oth_nat h] at this
  have e : (90 : UInt8).toNat = 90 := rfl
  omega
theorem oth_ne {i j : Nat} (hi : i ≤ 100) (hj : j ≤ 100) (h : i ≠ j) : lowB (oth i) ≠ lowB (oth j) := by
  rw [oth_low hi, oth_low hj]
  intro e
  have := congrArg UInt8.toNat e
  rw [oth_nat hi, oth_nat hj] at this
  omega
theorem oth_a {i : Nat} (hi : i ≤ 100) : lowB (oth i) ≠ lowB 97 := by
  rw [oth_low hi]
  intro e
  have := congrArg UInt8.toNat e
  rw [oth_nat hi] at this
  have e : (lowB 97).toNat = 97 := rfl
  omega
def Others (u : Int) (i : Nat) (M : List Ent) : Prop := ∀ x ∈ M, ∃ j, j < i ∧ x = entE (oth j) u 3 0
theorem stays_round {u most : Int} {i : Nat} {M : List Ent} (hu0 : 0 ≤ u) (hu1 : u ≤ 1099511627776) (hi : i ≤ 99) (h2 : 2 ≤ most) (hM : Others u i M) (hl : (M.length : Int) + 1 ≤ most) :
    putB (entE (oth i) u 3 0) 0 (M ++ [entE 97 u 3 0]) = true ∧ ∃ P M', putR most 0 (entE (oth i) u 3 0) (M ++ [entE 97 u 3 0]) = P ∧ getE (keyL 0 [1, 97, 0] 1 1) u P = some (entE 97 u 3 0) ∧
      getL (keyL 0 [1, 97, 0] 1 1) u P = M' ++ [entE 97 u 3 0] ∧ Others u (i + 1) M' ∧ (M'.length : Int) + 1 ≤ most ∧ (P.length : Int) ≤ most := by
  have hk : ∀ x ∈ M ++ [entE 97 u 3 0], x.key ≠ (entE (oth i) u 3 0).key := by
    intro x hx
    rw [List.mem_append] at hx
    rcases hx with hx | hx
    · obtain ⟨j, hj, rfl⟩ := hM x hx
      exact key_ne (oth_ne (by omega) (by omega) (by omega)) _ _ _ _ _ _
    · rw [List.mem_singleton.1 hx]
      exact key_ne (fun e => oth_a (by omega) e.symm) _ _ _ _ _ _
  have hp : putB (entE (oth i) u 3 0) 0 (M ++ [entE 97 u 3 0]) = true := putB_true (cchk_one _ hu0 (by omega) (by decide) (by decide)) hu0 (fun x hx e => absurd e (hk x hx))
  have hMa : ∀ x ∈ M, x.key ≠ keyL 0 [1, 97, 0] 1 1 := by
    intro x hx
    obtain ⟨j, hj, rfl⟩ := hM x hx
    exact key_ne' (oth_a (by omega)) _ _ _
  have hea : ∀ x ∈ [entE (oth i) u 3 0], x.key ≠ keyL 0 [1, 97, 0] 1 1 := by
    intro x hx
    rw [List.mem_singleton.1 hx]
    exact key_ne' (oth_a (by omega)) _ _ _
  have fin : ∀ N : List Ent, (∀ x ∈ N, x ∈ M) → (N.length : Int) + 2 ≤ most → ∃ M', getE (keyL 0 [1, 97, 0] 1 1) u (N ++ entE 97 u 3 0 :: [entE (oth i) u 3 0]) = some (entE 97 u 3 0) ∧ getL (keyL 0 [1, 97, 0] 1 1) u (N ++ entE 97 u 3 0 :: [entE (oth i) u 3 0]) = M' ++ [entE 97 u 3 0] ∧ Others u (i + 1) M' ∧ (M'.length : Int) + 1 ≤ most := by
    intro N hN hl
    refine ⟨N ++ [entE (oth i) u 3 0], getE_at (fun x hx => hMa x (hN x hx)) (key_one' _ _ _ _) (Int.le_refl _), getL_at (fun x hx => hMa x (hN x hx)) (key_one' _ _ _ _) (Int.le_refl _) hea, ?_, by simp; omega⟩
    intro x hx
    rw [List.mem_append] at hx
    rcases hx with hx | hx
    · obtain ⟨j, hj, e⟩ := hM x (hN x hx)
      exact ⟨j, by omega, e⟩
    · exact ⟨i, by omega, List.mem_singleton.1 hx⟩
  refine ⟨hp, ?_⟩
  have hmax : max most 1 = most := by omega
  by_cases hroom : ((M ++ [entE 97 u 3 0]).length : Int) < most
  · obtain ⟨M', q⟩ := fin M (fun _ h => h) (by simp at hroom; omega)
    rw [putR_room hp hk (by rw [hmax]; exact hroom), List.append_assoc]
    refine ⟨_, M', rfl, q.1, q.2.1, q.2.2.1, q.2.2.2, ?_⟩
    simp at hroom ⊢; omega
  · have hfull : ((M ++ [entE 97 u 3 0]).length : Int) = most := by simp at hroom ⊢; omega
    have ht : ∀ x ∈ M ++ [entE 97 u 3 0], (0 : Int) ≤ x.til := by
      intro x hx
      rw [List.mem_append] at hx
      rcases hx with hx | hx
      · obtain ⟨j, hj, rfl⟩ := hM x hx
        exact hu0
      · rw [List.mem_singleton.1 hx]; exact hu0
    rw [putR_full hp hk (by rw [hmax]; exact hfull) ht hu0]
    cases M with
    | nil => simp at hfull; omega
    | cons y N =>
      obtain ⟨M', q⟩ := fin N (fun _ h => List.mem_cons_of_mem _ h) (by simp at hfull; omega)
      refine ⟨_, M', rfl, ?_⟩
      rw [List.append_assoc]
      refine ⟨q.1, q.2.1, q.2.2.1, q.2.2.2, ?_⟩
      simp at hfull ⊢; omega

set_option maxRecDepth 100000 in
set_option maxHeartbeats 2000000 in
theorem stays_any (cap others til : Int) (w : World) :
    Calls Try.prog 4 #[.int .i64 cap, .int .i64 others, .int .i64 til] w fun r w' => r = .returned (.bool true) ∧ Below w.heap.size w w' := by
  obtain ⟨m, hm⟩ : ∃ m, m = cap.tmod 19 := ⟨_, rfl⟩
  have hmb : -19 < m ∧ m < 19 := by rw [hm]; exact tmod_bounds cap 19 (by decide)
  obtain ⟨n, hn⟩ : ∃ n, n = others.tmod 101 := ⟨_, rfl⟩
  have hnb : -101 < n ∧ n < 101 := by rw [hn]; exact tmod_bounds others 101 (by decide)
  have Hm := Lib.hid hm
  have Hn := Lib.hid hn
  clear hm hn
  go_enter Try.func4, Try.ntmps4
  go_wp2_with fail
  refine (awake_any _).mono ?_
  rintro r w1 ⟨rfl, hb1⟩
  have Hb1 := Lib.hid hb1
  clear hb1
  go_upto_if 20 with fail
  rw [← Hm.out]
  go_cut [8] (fun v wx => w1 = wx ∧ ∃ m : Int, v = .int .i64 m ∧ 0 ≤ m ∧ m ≤ 18)
  case first =>
    by_cases h : m < 0
    · have hd := decide_eq_true h
      have e1 : wrap64 (-m) = -m := by unfold wrap64; omega
      go_wp2_with fail
      go_meet
      exact ⟨rfl, _, rfl, by omega, by omega⟩
    · have hd := decide_eq_false h
      go_wp2_with fail
      go_meet
      exact ⟨rfl, _, rfl, by omega, by omega⟩
  case rest =>
    obtain ⟨rfl, k, rfl, hk0, hk1⟩ := hcut
    go_upto_if 28 with fail
    rw [← Hn.out]
    go_cut [9] (fun v wx => w1 = wx ∧ ∃ n : Nat, v = .int .i64 n ∧ n ≤ 100)
    case first =>
      by_cases h : n < 0
      · have hd := decide_eq_true h
        have e1 : wrap64 (-n) = -n := by unfold wrap64; omega
        go_wp2_with fail
        go_meet
        exact ⟨rfl, (-n).toNat, by congr 1; omega, by omega⟩
      · have hd := decide_eq_false h
        go_wp2_with fail
        go_meet
        exact ⟨rfl, n.toNat, by congr 1; omega, by omega⟩
    case rest =>
      obtain ⟨rfl, q, rfl, hq⟩ := hcut
      go_upto_region 9 with fail
      go_cut [36] (fun v wx => w1 = wx ∧ v = .bool (decide (til < 0) || decide (1099511627776 < til)))
      case first =>
        by_cases h : til < 0
        · have hd := decide_eq_true h
          go_wp2_with fail
          go_meet
          exact ⟨rfl, by rw [hd]; rfl⟩
        · have hd := decide_eq_false h
          go_wp2_with fail
          go_meet
          exact ⟨rfl, by rw [hd]; rfl⟩
      case rest =>
      obtain ⟨rfl, rfl⟩ := hcut
      go_upto_if 36 with fail
      go_cut [2] (fun v wx => w1 = wx ∧ ∃ u : Int, v = .int .i64 u ∧ 0 ≤ u ∧ u ≤ 1099511627776)
      case first =>
        cases ht : (decide (til < 0) || decide (1099511627776 < til)) with
        | true =>
          go_wp2_with fail
          go_meet
          exact ⟨rfl, 100, rfl, by omega, by omega⟩
        | false =>
          rw [Bool.or_eq_false_iff, decide_eq_false_iff_not, decide_eq_false_iff_not] at ht
          have Ht := Lib.hid ht
          clear ht
          go_wp2_with fail
          go_meet
          exact ⟨rfl, til, rfl, by have := Ht.out.1; omega, by have := Ht.out.2; omega⟩
      case rest =>
        obtain ⟨rfl, u, rfl, hu0, hu1⟩ := hcut
        clear hmb hnb Hm Hn
        go_wp2_with fail
        refine (new_mine (k + 2) _ Hb1.out).mono ?_
        rintro r w2 ⟨rfl, hb, hM⟩
        rw [show capOf (k + 2) = k + 2 by unfold capOf; rw [if_neg (by omega), if_neg (by omega)]] at hM
        have M2 := Lib.hid hM
        clear hM hb
        go_wp2_with fail
        refine (entry_any 97 97 u _ rfl).mono ?_
        rintro r w3 ⟨rv, rfl, ho, hb⟩
        have Ho := Lib.hid ho
        have Hb : Hid (Below w2.heap.size w2 w3) := Lib.hid (bel_call (by go_grown) hb)
        have hp : putB (entE 97 u 3 0) 0 [] = true := putB_true (cchk_one 97 hu0 (by omega) (by decide) (by decide)) hu0 (fun x hx => by cases hx)
        have hP : putR (k + 2) 0 (entE 97 u 3 0) [] = [entE 97 u 3 0] := putR_room hp (fun x hx => by cases hx) (by simp; omega)
        have Hp := Lib.hid hp
        have HP := Lib.hid hP
        clear ho hb hp hP
        go_wp2_with fail
        refine (put_mine M2.out (entE 97 u 3 0) rv 0 w3 _ rfl Hp.out Hb.out (entIn_one _ _ _ _) Ho.out (by simp) (by decide)).mono ?_
        rintro r w4 ⟨rfl, c4, hM, _⟩
        rw [HP.out] at hM
        have M4 := Lib.hid hM
        clear hM M2 Ho Hb Hp HP
        go_wp2_with fail
        obtain ⟨cb, hcb⟩ : ∃ cb, cb = w1.heap.size := ⟨_, rfl⟩
        rw [← hcb] at M4 ⊢
        clear hcb
        dsimp only [Ent.val, entE]
        go_loopw [11, 12, 13] (fun i_ _ _ wr => ∃ (i : Nat) (c : Ca) (M : List Ent), i_ = .int .i64 i ∧ i ≤ q ∧ Mine w.heap.size w cb (k + 2) (2 * i + 1) (M ++ [entE 97 u 3 0]) wr c ∧ Others u i M ∧ (M.length : Int) + 1 ≤ k + 2) (fun i_ _ _ _ => q - (intOf i_).toNat)
        case atStart =>
          exact ⟨0, c4, [], rfl, Nat.zero_le _, M4.out, (fun x hx => by cases hx), by show ((0 : Nat) : Int) + 1 ≤ k + 2; omega⟩
        case round =>
          obtain ⟨i, c, M, rfl, hi, hM, hO, hl⟩ := hrel
          by_cases hlt : i < q
          · have hd : decide ((i : Int) < q) = true := decide_eq_true (by omega)
            obtain ⟨hp, P, M', hP, hg, hL, hO', hl', hPl⟩ := stays_round hu0 hu1 (by omega : i ≤ 99) (by omega : 2 ≤ k + 2) hO hl
            have e1 : IntKind.u8.wrap (130 + (i : Int)) = 130 + (i : Int) := IntWalk.u8_in _ (by omega)
            have hnat : (130 + (i : Int)) = (oth i).toNat := by rw [oth_nat (by omega)]; omega
            have HM := Lib.hid hM
            have Hp := Lib.hid hp
            have HP := Lib.hid hP
            have Hg := Lib.hid hg
            have HL := Lib.hid hL
            have HO' := Lib.hid hO'
            have Hnat := Lib.hid hnat
            have hn1 : 2 * i + 1 < 1000000 := by omega
            clear hM hp hP hg hL hO' hnat hO M4
            go_wp2_with fail
            refine (entry_any (oth i) _ u _ Hnat.out).mono ?_
            rintro r w5 ⟨rv, rfl, ho, hb⟩
            have Ho := Lib.hid ho
            have Hb := Lib.hid hb
            clear ho hb
            go_wp2_with fail
            refine (put_mine HM.out (entE (oth i) u 3 0) rv 0 w5 _ rfl Hp.out Hb.out (entIn_one _ _ _ _) Ho.out (by simp) hn1).mono ?_
            rintro r w6 ⟨rfl, c6, hM, _⟩
            rw [HP.out] at hM
            have M6 := Lib.hid hM
            clear hM HM Ho Hb
            go_wp2_with fail
            refine (get_some M6.out _ 1 1 u _ lsta Hg.out (by go_grown) (by decide) (by decide) (by decide) (by decide) (by decide) (by omega)).mono ?_
            rintro r w7 ⟨c7, rv7, hM, _, rfl, ho⟩
            rw [HL.out] at hM
            obtain ⟨A, cap7, rfl⟩ := ho.shape
            have M7 := Lib.hid hM
            clear hM ho M6
            dsimp only [Ent.val, entE]
            go_wp2_with fail
            refine (len_mine M7.out _ (by go_grown)).mono ?_
            rintro r w8 ⟨rfl, rfl⟩
            obtain ⟨N, hN⟩ : ∃ N : Nat, N = (M' ++ [entE 97 u 3 0]).length := ⟨_, rfl⟩
            have hN1 : (N : Int) ≤ k + 2 := by rw [hN]; simp; omega
            have hd2 : decide (k + 2 < (N : Int)) = false := decide_eq_false (by omega)
            rw [← hN]
            clear hN
            go_wp2_with fail
            go_roundw
            case rel =>
              refine ⟨i + 1, c7, M', rfl, by omega, ?_, HO'.out, hl'⟩
              rw [show 2 * (i + 1) + 1 = 2 * i + 1 + 1 + 1 by omega]
              exact M7.out.step (by go_grown)
            case measure => simp [intOf]; omega
          · have hd : decide ((i : Int) < q) = false := decide_eq_false (by omega)
            have hg : getE (keyL 0 [1, 97, 0] 1 1) (u + 1) (M ++ [entE 97 u 3 0]) = none := getE_nil (fun x hx => by
              rw [List.mem_append] at hx
              rcases hx with hx | hx
              · obtain ⟨j, hj, rfl⟩ := hO x hx
                exact .inl (key_ne' (oth_a (by omega)) _ _ _)
              · rw [List.mem_singleton.1 hx]
                exact .inr (by show u < u + 1; omega))
            have HM := Lib.hid hM
            have Hg := Lib.hid hg
            have hn1 : 2 * i + 1 < 1000000 := by omega
            clear hM hg hO M4
            go_wp2_with fail
            refine (get_none HM.out _ 1 1 (u + 1) _ lsta Hg.out (by go_grown) (by decide) (by decide) (by decide) (by decide) (by decide) hn1).mono ?_
            rintro r w7 ⟨c7, rv7, hM, _, rfl, ho⟩
            obtain ⟨A, cap7, rfl⟩ := ho.shape
            have M7 := Lib.hid hM
            clear hM ho HM
            dsimp only [Ent.val, zeroE]
            go_wp2_with fail
            go_ret
            exact ⟨rfl, (M7.out.step (by go_grown)).below⟩
end Go.Proofs.Ytihfapnipifiiaa
