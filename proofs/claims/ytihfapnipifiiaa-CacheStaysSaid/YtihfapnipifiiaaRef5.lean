/- The walks of the reference of package record: head, first, Names, Right, Check. -/
import Derived.Test.YtihfapnipifiiaaRec3
namespace Go.Proofs.Ytihfapnipifiiaa
open Go Go.RowKit Go.Shelf

/-- Has a type's data names? -/
def namedT (t : Int) : Bool := !decide (shapeL t = (0, 0, 0))

set_option maxRecDepth 100000 in
set_option maxHeartbeats 1000000 in
theorem rhead_any (t : Int) (w : World) :
    Calls Try.prog 112 #[.int .u16 t] w fun e w' => e = .returned (.tuple #[.int .i64 (shapeL t).1, .int .i64 (shapeL t).2.1, .int .i64 (shapeL t).2.2, .bool (namedT t)]) ∧ w = w' := by
  have nb : ∀ c : Int, t ≠ c → (t == c) = false := fun c h => beq_eq_false_iff_ne.2 h
  by_cases e2 : t = 2
  · subst e2
    go_enter Try.func112, Try.ntmps112
    go_wp2
    exact bodyPost_ret (v := .tuple #[.int .i64 (shapeL 2).1, .int .i64 (shapeL 2).2.1, .int .i64 (shapeL 2).2.2, .bool (namedT 2)]) (by simp [results, Try.results112, go_sem]; refine ⟨?_, ?_, ?_, ?_⟩ <;> rfl) rfl ⟨rfl, rfl⟩
  by_cases e5 : t = 5
  · subst e5
    go_enter Try.func112, Try.ntmps112
    go_wp2
    exact bodyPost_ret (v := .tuple #[.int .i64 (shapeL 5).1, .int .i64 (shapeL 5).2.1, .int .i64 (shapeL 5).2.2, .bool (namedT 5)]) (by simp [results, Try.results112, go_sem]; refine ⟨?_, ?_, ?_, ?_⟩ <;> rfl) rfl ⟨rfl, rfl⟩
  by_cases e12 : t = 12
  · subst e12
    go_enter Try.func112, Try.ntmps112
    go_wp2
    exact bodyPost_ret (v := .tuple #[.int .i64 (shapeL 12).1, .int .i64 (shapeL 12).2.1, .int .i64 (shapeL 12).2.2, .bool (namedT 12)]) (by simp [results, Try.results112, go_sem]; refine ⟨?_, ?_, ?_, ?_⟩ <;> rfl) rfl ⟨rfl, rfl⟩
  by_cases e15 : t = 15
  · subst e15
    go_enter Try.func112, Try.ntmps112
    go_wp2
    exact bodyPost_ret (v := .tuple #[.int .i64 (shapeL 15).1, .int .i64 (shapeL 15).2.1, .int .i64 (shapeL 15).2.2, .bool (namedT 15)]) (by simp [results, Try.results112, go_sem]; refine ⟨?_, ?_, ?_, ?_⟩ <;> rfl) rfl ⟨rfl, rfl⟩
  by_cases e6 : t = 6
  · subst e6
    go_enter Try.func112, Try.ntmps112
    go_wp2
    exact bodyPost_ret (v := .tuple #[.int .i64 (shapeL 6).1, .int .i64 (shapeL 6).2.1, .int .i64 (shapeL 6).2.2, .bool (namedT 6)]) (by simp [results, Try.results112, go_sem]; refine ⟨?_, ?_, ?_, ?_⟩ <;> rfl) rfl ⟨rfl, rfl⟩
  have b2 := nb 2 e2
  have b5 := nb 5 e5
  have b12 := nb 12 e12
  have b15 := nb 15 e15
  have b6 := nb 6 e6
  have hsh : shapeL t = (0, 0, 0) := by unfold shapeL; rw [if_neg (by omega), if_neg e15, if_neg e6]
  have Hsh := Lib.hid hsh
  clear hsh e2 e5 e12 e15 e6 nb
  go_enter Try.func112, Try.ntmps112
  go_wp2
  exact bodyPost_ret (v := .tuple #[.int .i64 0, .int .i64 0, .int .i64 0, .bool false]) (by simp [results, Try.results112, go_sem]) rfl ⟨by unfold namedT; rw [Hsh.out]; rfl, rfl⟩

/-- What 'first' hands back. -/
def FirstPost (s : List UInt8) (w : World) (e : Ending) (w' : World) : Prop :=
  Below w.heap.size w w' ∧ match firstN s with
  | none => e = .returned (.tuple #[.string ⟨#[]⟩, .string ⟨#[]⟩, .bool false])
  | some (x, r) => e = .returned (.tuple #[.string (bs x), .string (bs r), .bool true])

set_option maxRecDepth 100000 in
set_option maxHeartbeats 1000000 in
theorem rfirst_any (s : ByteArray) (w : World) (hs : s.size ≤ 1048576) :
    Calls Try.prog 122 #[.string s] w (FirstPost (lst s) w) := by
  have Hlen := Lib.hid (lst_length s)
  go_enter Try.func122, Try.ntmps122
  go_wp2
  go_loop [5] (fun at_ => ∃ k : Nat, at_ = .int .i64 k ∧ k ≤ s.size + 300 ∧ skip (lst s) = k + skip ((lst s).drop k)) (fun at_ => s.size + 300 - (intOf at_).toNat)
  case atStart => exact ⟨0, rfl, by omega, by simp⟩
  case round =>
    obtain ⟨k, rfl, hk, hsk⟩ := hrel
    have Hsk := Lib.hid hsk
    clear hsk
    by_cases hlt : k < s.size
    · obtain ⟨c, hcv⟩ : ∃ c, s[k].toNat = c := ⟨_, rfl⟩
      have hc255 : c ≤ 255 := by have := s[k].toNat_lt; omega
      have Hget := Lib.hid (lst_get s k hlt)
      by_cases hc0 : c = 0
      · have h0 : ((c : Int) != 0) = false := by simp [hc0]
        have Hk : Hid (skip (lst s) = k) := Lib.hid (by rw [Hsk.out, skip_zero (by rw [Hget.out]; congr 1; exact UInt8.toNat_inj.1 (by rw [hcv, hc0]; rfl))]; rfl)
        clear hc0
        have hext : lst (s.extract 0 (k + 1)) = (lst s).take (k + 1) := by rw [extract_bs, lst_bs]; simp
        have Hext := Lib.hid hext
        clear hext
        by_cases hck : chk ((lst s).take (k + 1)) = 0
        · have hb : ((chk ((lst s).take (k + 1)) : Int) != 0) = false := by rw [hck]; rfl
          have Hck := Lib.hid hck
          clear hck
          have e1 : Hid (firstN (lst s) = some ((lst s).take (k + 1), (lst s).drop (k + 1))) := by
            show firstN (lst s) = _
            unfold firstN; rw [Hk.out, if_pos ⟨by rw [lst_length]; exact hlt, Hck.out⟩]
          go_wp2_with fail
          refine (rcheck_any (s.extract 0 (k + 1)) _ (by rw [ByteArray.size_extract]; omega)).mono ?_
          rw [Hext.out]
          rintro e w1 ⟨rfl, h1⟩
          go_wp2
          have mw : IntKind.i64.wrap ((k : Int) + 1) = (k : Int) + 1 := IntWalk.i64_in _ (by omega)
          have mw0 : 0 ≤ (k : Int) + 1 := by omega
          have mw1 : (k : Int) + 1 ≤ s.size := by omega
          have mw2 : ((k : Int) + 1).toNat = k + 1 := by omega
          go_quiet (fail)
          go_wp2
          clear mw mw0 mw1 mw2
          go_ret3
          unfold FirstPost; rw [e1.out]
          refine ⟨pw_drewN h1 _, ?_⟩
          show Ending.returned (.tuple #[.string (s.extract 0 (k + 1)), .string (s.extract (k + 1) s.size), .bool true]) = _
          rw [extract_bs, extract_bs, List.take_of_length_le (l := (lst s).drop (k + 1)) (by rw [List.length_drop, Hlen.out]; exact Nat.le_refl _)]
          simp
        · have hb : ((chk ((lst s).take (k + 1)) : Int) != 0) = true := by rw [bne_iff_ne]; exact hck
          have Hck := Lib.hid hck
          clear hck
          have e1 : Hid (firstN (lst s) = none) := by
            show firstN (lst s) = _
            unfold firstN; rw [Hk.out, if_neg (fun h => Hck.out h.2)]
          go_wp2_with fail
          refine (rcheck_any (s.extract 0 (k + 1)) _ (by rw [ByteArray.size_extract]; omega)).mono ?_
          rw [Hext.out]
          rintro e w1 ⟨rfl, h1⟩
          go_wp2
          go_ret3
          unfold FirstPost; rw [e1.out]
          exact ⟨h1, rfl⟩
      · have h0 : ((c : Int) != 0) = true := by simp [hc0]
        have Hk : Hid (skip (lst s) = k + 1 + c + skip ((lst s).drop (k + 1 + c))) := Lib.hid (by rw [Hsk.out, skip_step Hget.out (fun h => hc0 (by rw [← hcv, h]; rfl)), hcv]; omega)
        clear hc0
        go_wp2
        go_round
        case rel => exact ⟨k + 1 + c, by go_num, by omega, Hk.out⟩
        case measure => simp [intOf]; omega
    · have Hk : Hid (skip (lst s) = k) := Lib.hid (by rw [Hsk.out, skip_end (by rw [lst_length]; omega)]; rfl)
      go_wp2
      go_ret3
      unfold FirstPost firstN
      rw [if_neg (by rw [Hk.out, lst_length]; omega)]
      exact ⟨Below.refl _ _, rfl⟩
end Go.Proofs.Ytihfapnipifiiaa
