/- The walks of the reference of package name. -/
import Derived.Test.YtihfapnipifiiaaName4
import Derived.Deep.RegionHeld3
namespace Go.Proofs.Ytihfapnipifiiaa
open Go Go.RowKit Go.Shelf

/-- What 'row' hands back. -/
def RowPost (s : ByteArray) (w : World) (e : Ending) (w' : World) : Prop :=
  ∃ v ls, e = .returned (.tuple #[v, .bool (lab (lst s)).isSome]) ∧ Below w.heap.size w w' ∧ Strs w' w.heap.size v ls ∧ ((lab (lst s)).isSome = true → lab (lst s) = some ls)

theorem lab_back {l : List UInt8} {k : Nat} {ls : List (List UInt8)} (hl : lab l = (lab (l.drop k)).map (ls ++ ·)) (h : lab (l.drop k) = none) : lab l = none := by rw [hl, h]; rfl

set_option maxRecDepth 100000 in
set_option maxHeartbeats 1000000 in
theorem rrow_any (s : ByteArray) (w : World) (hs : s.size ≤ 1099511627776) :
    Calls Try.prog 83 #[.string s] w (RowPost s w) := by
  obtain ⟨i0, hi, hz0, hz1, hz2⟩ := info_parts info_string
  have hlen : (lst s).length = s.size := lst_length s
  have Hlen := Lib.hid hlen
  clear hlen
  go_enter Try.func83, Try.ntmps83
  go_wp2
  go_loopw [4, 5] (fun out at_ wr => ∃ (k : Nat) (ls : List (List UInt8)), at_ = .int .i64 k ∧ k ≤ s.size ∧ lab (lst s) = (lab ((lst s).drop k)).map (ls ++ ·) ∧ ls.length ≤ k ∧
       Strs wr w.heap.size out ls ∧ Below w.heap.size w wr)
     (fun _ i _ => s.size - (intOf i).toNat)
  case atStart => exact ⟨0, [], rfl, Nat.zero_le _, by simp, Nat.le_refl _, Strs.nil _ _, Below.refl _ _⟩
  case round =>
    obtain ⟨k, ls, rfl, hk, hl, hll, hown, hB⟩ := hrel
    have Hl := Lib.hid hl
    have Hown := Lib.hid hown
    have hsz := hB.size
    clear hl hown
    by_cases hlt : k < s.size
    · obtain ⟨c, hcv⟩ : ∃ c, s[k].toNat = c := ⟨_, rfl⟩
      have hc255 : c ≤ 255 := by have := s[k].toNat_lt; omega
      have Hget := Lib.hid (lst_get s k hlt)
      by_cases hc0 : c = 0
      · have h0 : ((c : Int) != 0) = false := by simp [hc0]
        have HL := Lib.hid (lab_zero (l := lst s) (k := k) (by rw [Hget.out]; congr 1; exact UInt8.toNat_inj.1 (by rw [hcv, hc0]; rfl)))
        clear hc0
        by_cases hend : k + 1 = s.size
        · have he : ((k : Int) == (s.size : Int) - 1) = true := by rw [beq_iff_eq]; omega
          have Hend := Lib.hid hend
          clear hend
          go_wp2
          go_ret2
          have e : lab (lst s) = some ls := by rw [Hl.out, HL.out, if_pos (by rw [Hlen.out]; exact Hend.out)]; simp
          exact ⟨_, ls, by rw [e]; rfl, hB, Hown.out, fun _ => e⟩
        · have he : ((k : Int) == (s.size : Int) - 1) = false := by rw [beq_eq_false_iff_ne]; omega
          have Hend := Lib.hid hend
          clear hend
          go_wp2
          go_ret2
          have e : lab (lst s) = none := by rw [Hl.out, HL.out, if_neg (by rw [Hlen.out]; exact Hend.out)]; rfl
          exact ⟨_, ls, by rw [e]; rfl, hB, Hown.out, fun h => by rw [e] at h; cases h⟩
      · have h0 : ((c : Int) != 0) = true := by simp [hc0]
        have Hc0 : Hid (s[k] ≠ 0) := Lib.hid (fun h => hc0 (by rw [← hcv, h]; rfl))
        clear hc0
        have Hcv := Lib.hid hcv
        by_cases hbad : 63 < c ∨ s.size < k + 1 + c
        · have e : lab (lst s) = none := lab_back Hl.out (lab_bad Hget.out Hc0.out (by rw [Hcv.out, Hlen.out]; exact hbad))
          have E := Lib.hid e
          clear e
          by_cases h63 : 63 < c
          · go_wp2
            go_ret2
            exact ⟨_, [], by rw [E.out]; rfl, hB, Strs.nil _ _, fun h => by rw [E.out] at h; cases h⟩
          · have hroom : s.size < k + 1 + c := by omega
            have h63' : c ≤ 63 := by omega
            clear hbad h63
            go_wp2
            go_ret2
            exact ⟨_, [], by rw [E.out]; rfl, hB, Strs.nil _ _, fun h => by rw [E.out] at h; cases h⟩
        · have h63 : c ≤ 63 := by omega
          have hroom : k + 1 + c ≤ s.size := by omega
          have HL := Lib.hid (lab_step Hget.out Hc0.out (by rw [Hcv.out]; exact h63) (by rw [Hcv.out, Hlen.out]; exact hroom))
          rw [Hcv.out] at HL
          clear hbad
          go_wp2_with (at_builtin; refine wpList_append_own _ rfl _ _ 47 rfl w.heap.size 9 i0 (.string ⟨#[]⟩) 1 16 Try.underlying47 hi hz0 hz1 hz2 rfl (by decide) _ _ _ rfl (Hown.out.alloc _) ⟨wr.heap.size, 0, none⟩ 1 1 [.string (s.extract (k+1) (k+1+c))] rfl rfl (cell_one_new _ _ _) ?c2 ?c3 ?c4 ?c5 ?_)
          case c2 => intro u hu; simp only [List.mem_singleton] at hu; subst hu; rfl
          case c3 => simp only [maxLen]; omega
          case c4 => omega
          case c5 => simp; omega
          intro v' w1 hown1 hgrow1 _
          have Hown1 := Lib.hid hown1
          have hB1 : Below w.heap.size w w1 := (hB.alloc hsz _).grown hgrow1 (by simp; omega) (fun k hk => (own_cells Hown.out k hk).1)
          clear hown1 hgrow1
          go_wp2
          go_roundw
          case rel =>
            refine ⟨k + 1 + c, ls ++ [((lst s).drop (k + 1)).take c], by go_num, hroom, ?_, by simp; omega, ?_, hB1⟩
            · rw [Hl.out, HL.out]; cases lab ((lst s).drop (k + 1 + c)) <;> simp
            · have := Hown1.out
              unfold Strs
              rw [extract_bs, show k + 1 + c - (k + 1) = c by omega] at this
              simpa using this
          case measure => simp [intOf]; omega
    · have e : lab (lst s) = none := lab_back Hl.out (lab_end (by rw [Hlen.out]; omega))
      have E := Lib.hid e
      have he : ((k : Int) == (s.size : Int) - 1) = false := by rw [beq_eq_false_iff_ne]; omega
      clear e
      go_wp2
      go_ret2
      exact ⟨_, ls, by rw [E.out]; rfl, hB, Hown.out, fun h => by rw [E.out] at h; cases h⟩

set_option maxRecDepth 100000 in
theorem rcheck_any (s : ByteArray) (w : World) (hs : s.size ≤ 1099511627776) :
    Calls Try.prog 39 #[.string s] w fun e w' => e = .returned (.int .i64 (chk (lst s))) ∧ Below w.heap.size w w' := by
  have hlen : (lst s).length = s.size := lst_length s
  have Hlen := Lib.hid hlen
  clear hlen
  go_enter Try.func39, Try.ntmps39
  go_wp2_with fail
  refine (rrow_any s _ hs).mono ?_
  rintro e w1 ⟨v, ls, rfl, h1, hst, hl⟩
  cases hlab : lab (lst s) with
  | none =>
    have Hlab := Lib.hid hlab
    clear hlab hl
    go_wp2
    go_ret
    exact ⟨by rw [chk_none Hlab.out]; rfl, h1⟩
  | some ls' =>
    have Hlab := Lib.hid hlab
    clear hlab hl
    by_cases hbig : 255 < s.size
    · go_wp2
      go_ret
      exact ⟨by rw [chk_big Hlab.out (by rw [Hlen.out]; exact hbig)]; rfl, h1⟩
    · go_wp2
      go_ret
      exact ⟨by rw [chk_ok Hlab.out (by rw [Hlen.out]; omega)]; rfl, h1⟩

set_option maxRecDepth 100000 in
theorem rlabels_any (s : ByteArray) (w : World) (hs : s.size ≤ 1099511627776) :
    Calls Try.prog 100 #[.string s] w (LabPost s w) := by
  go_enter Try.func100, Try.ntmps100
  go_wp2_with fail
  refine (rcheck_any s _ hs).mono ?_
  rintro e w1 ⟨rfl, h1⟩
  have hz1 := h1.size
  by_cases hc : chk (lst s) = 0
  · have hb : ((chk (lst s) : Int) != 0) = false := by rw [hc]; rfl
    have Hc := Lib.hid hc
    clear hc
    go_wp2_with fail
    refine (rrow_any s _ hs).mono ?_
    rintro e w2 ⟨v, ls, rfl, h2, hst, hl⟩
    have Hl := Lib.hid hl
    clear hl
    go_wp2
    go_ret2
    refine ⟨_, ls, by rw [Hc.out]; rfl, h1.trans (h2.mono hz1), hst.mono hz1, fun _ => Hl.out ?_, fun h => absurd Hc.out h⟩
    obtain ⟨⟨ls', e⟩, _⟩ := chk_zero Hc.out
    rw [e]; rfl
  · have hb : ((chk (lst s) : Int) != 0) = true := by rw [bne_iff_ne]; exact hc
    have Hc := Lib.hid hc
    clear hc
    go_wp2
    go_ret2
    exact ⟨_, [], rfl, h1, Strs.nil _ _, fun h => absurd h Hc.out, fun _ => rfl⟩

set_option maxRecDepth 100000 in
theorem rdepth_any (s : ByteArray) (w : World) (hs : s.size ≤ 1099511627776) :
    Calls Try.prog 66 #[.string s] w fun e w' => e = .returned (.int .i64 (depth (lst s))) ∧ Below w.heap.size w w' := by
  by_cases hc : chk (lst s) = 0
  · go_enter Try.func66, Try.ntmps66
    go_wp2_with (go_at_call 100; refine (rlabels_any s _ hs).mono ?_; rintro e w' ⟨v, ls, rfl, hb, hst, hl, hz⟩; have Hl := Lib.hid (hl hc); obtain ⟨A, cap, rfl⟩ := hst.shape; clear hl hz)
    go_ret
    exact ⟨by unfold depth; rw [if_pos hc, Hl.out]; rfl, hb⟩
  · have hne : ((chk (lst s) : Int) != 0) = true := by rw [bne_iff_ne]; exact hc
    have Hc := Lib.hid hc
    clear hc
    go_enter Try.func66, Try.ntmps66
    go_wp2_with (go_at_call 100; refine (rlabels_any s _ hs).mono ?_; rintro e w' ⟨v, ls, rfl, hb, hst, hl, hz⟩; clear hl hz)
    go_ret
    exact ⟨by unfold depth; rw [if_neg Hc.out]; rfl, hb⟩
end Go.Proofs.Ytihfapnipifiiaa
