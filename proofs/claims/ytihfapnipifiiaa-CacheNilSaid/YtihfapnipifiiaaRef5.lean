/- The walks of the reference of package record: head, first, Names, Right, Check. The walks of the reference of package record: Names, Right, Check. A cache's keys, as lists of bytes. How a cache's items lie in memory. -/
import Derived.Test.YtihfapnipifiiaaRec
set_option linter.unusedVariables false
set_option linter.unusedSimpArgs false
/- The walks of the reference of package record: head, first, Names, Right, Check. -/
namespace Go.Proofs.Ytihfapnipifiiaa
open Go Go.RowKit Go.Shelf

/-- Has a type's data names? -/
def namedT (t : Int) : Bool := !decide (shapeL t = (0, 0, 0))

set_option maxRecDepth 100000 in
set_option maxHeartbeats 1000000 in
theorem rhead_any (t : Int) (w : World) :
    Calls Try.prog 112 #[.int .u16 t] w fun e w' => e = .returned (.tuple #[.int .i64 (shapeL t).1, .int .i64 (shapeL t).2.1, .int .i64 (shapeL t).2.2, .bool (namedT t)]) ∧ w = w' := by
  have nb : ∀ c : Int, t ≠ c → (t == c) = false := fun c h => beq_eq_false_iff_ne.2 h
  by_cases e2 : t = 2
  · subst e2
    go_enter Try.func112, Try.ntmps112
    go_wp2
    exact bodyPost_ret (v := .tuple #[.int .i64 (shapeL 2).1, .int .i64 (shapeL 2).2.1, .int .i64 (shapeL 2).2.2, .bool (namedT 2)]) (by simp [results, Try.results112, go_sem]; refine ⟨?_, ?_, ?_, ?_⟩ <;> rfl) rfl ⟨rfl, rfl⟩
  by_cases e5 : t = 5
  · subst e5
    go_enter Try.func112, Try.ntmps112
    go_wp2
    exact bodyPost_ret (v := .tuple #[.int .i64 (shapeL 5).1, .int .i64 (shapeL 5).2.1, .int .i64 (shapeL 5).2.2, .bool (namedT 5)]) (by simp [results, Try.results112, go_sem]; refine ⟨?_, ?_, ?_, ?_⟩ <;> rfl) rfl ⟨rfl, rfl⟩
  by_cases e12 : t = 12
  · subst e12
    go_enter Try.func112, Try.ntmps112
    go_wp2
    exact bodyPost_ret (v := .tuple #[.int .i64 (shapeL 12).1, .int .i64 (shapeL 12).2.1, .int .i64 (shapeL 12).2.2, .bool (namedT 12)]) (by simp [results, Try.results112, go_sem]; refine ⟨?_, ?_, ?_, ?_⟩ <;> rfl) rfl ⟨rfl, rfl⟩
  by_cases e15 : t = 15
  · subst e15
    go_enter Try.func112, Try.ntmps112
    go_wp2
    exact bodyPost_ret (v := .tuple #[.int .i64 (shapeL 15).1, .int .i64 (shapeL 15).2.1, .int .i64 (shapeL 15).2.2, .bool (namedT 15)]) (by simp [results, Try.results112, go_sem]; refine ⟨?_, ?_, ?_, ?_⟩ <;> rfl) rfl ⟨rfl, rfl⟩
  by_cases e6 : t = 6
  · subst e6
    go_enter Try.func112, Try.ntmps112
    go_wp2
    exact bodyPost_ret (v := .tuple #[.int .i64 (shapeL 6).1, .int .i64 (shapeL 6).2.1, .int .i64 (shapeL 6).2.2, .bool (namedT 6)]) (by simp [results, Try.results112, go_sem]; refine ⟨?_, ?_, ?_, ?_⟩ <;> rfl) rfl ⟨rfl, rfl⟩
  have b2 := nb 2 e2
  have b5 := nb 5 e5
  have b12 := nb 12 e12
  have b15 := nb 15 e15
  have b6 := nb 6 e6
  have hsh : shapeL t = (0, 0, 0) := by unfold shapeL; rw [if_neg (by omega), if_neg e15, if_neg e6]
  have Hsh := Lib.hid hsh
  clear hsh e2 e5 e12 e15 e6 nb
  go_enter Try.func112, Try.ntmps112
  go_wp2
  exact bodyPost_ret (v := .tuple #[.int .i64 0, .int .i64 0, .int .i64 0, .bool false]) (by simp [results, Try.results112, go_sem]) rfl ⟨by unfold namedT; rw [Hsh.out]; rfl, rfl⟩

/-- What 'first' hands back. -/
def FirstPost (s : List UInt8) (w : World) (e : Ending) (w' : World) : Prop :=
  Below w.heap.size w w' ∧ match firstN s with
  | none => e = .returned (.tuple #[.string ⟨#[]⟩, .string ⟨#[]⟩, .bool false])
  | some (x, r) => e = .returned (.tuple #[.string (bs x), .string (bs r), .bool true])

set_option maxRecDepth 100000 in
set_option maxHeartbeats 1000000 in
theorem rfirst_any (s : ByteArray) (w : World) (hs : s.size ≤ 1048576) :
    Calls Try.prog 122 #[.string s] w (FirstPost (lst s) w) := by
  have Hlen := Lib.hid (lst_length s)
  go_enter Try.func122, Try.ntmps122
  go_wp2
  go_loop [5] (fun at_ => ∃ k : Nat, at_ = .int .i64 k ∧ k ≤ s.size + 300 ∧ skip (lst s) = k + skip ((lst s).drop k)) (fun at_ => s.size + 300 - (intOf at_).toNat)
  case atStart => exact ⟨0, rfl, by omega, by simp⟩
  case round =>
    obtain ⟨k, rfl, hk, hsk⟩ := hrel
    have Hsk := Lib.hid hsk
    clear hsk
    by_cases hlt : k < s.size
    · obtain ⟨c, hcv⟩ : ∃ c, s[k].toNat = c := ⟨_, rfl⟩
      have hc255 : c ≤ 255 := by have := s[k].toNat_lt; omega
      have Hget := Lib.hid (lst_get s k hlt)
      by_cases hc0 : c = 0
      · have h0 : ((c : Int) != 0) = false := by simp [hc0]
        have Hk : Hid (skip (lst s) = k) := Lib.hid (by rw [Hsk.out, skip_zero (by rw [Hget.out]; congr 1; exact UInt8.toNat_inj.1 (by rw [hcv, hc0]; rfl))]; rfl)
        clear hc0
        have hext : lst (s.extract 0 (k + 1)) = (lst s).take (k + 1) := by rw [extract_bs, lst_bs]; simp
        have Hext := Lib.hid hext
        clear hext
        by_cases hck : chk ((lst s).take (k + 1)) = 0
        · have hb : ((chk ((lst s).take (k + 1)) : Int) != 0) = false := by rw [hck]; rfl
          have Hck := Lib.hid hck
          clear hck
          have e1 : Hid (firstN (lst s) = some ((lst s).take (k + 1), (lst s).drop (k + 1))) := by
            show firstN (lst s) = _
            unfold firstN; rw [Hk.out, if_pos ⟨by rw [lst_length]; exact hlt, Hck.out⟩]
          go_wp2_with fail
          refine (rcheck_any (s.extract 0 (k + 1)) _ (by rw [ByteArray.size_extract]; omega)).mono ?_
          rw [Hext.out]
          rintro e w1 ⟨rfl, h1⟩
          go_wp2
          have mw : IntKind.i64.wrap ((k : Int) + 1) = (k : Int) + 1 := IntWalk.i64_in _ (by omega)
          have mw0 : 0 ≤ (k : Int) + 1 := by omega
          have mw1 : (k : Int) + 1 ≤ s.size := by omega
          have mw2 : ((k : Int) + 1).toNat = k + 1 := by omega
          go_quiet (fail)
          go_wp2
          clear mw mw0 mw1 mw2
          go_ret3
          unfold FirstPost; rw [e1.out]
          refine ⟨pw_drewN h1 _, ?_⟩
          show Ending.returned (.tuple #[.string (s.extract 0 (k + 1)), .string (s.extract (k + 1) s.size), .bool true]) = _
          rw [extract_bs, extract_bs, List.take_of_length_le (l := (lst s).drop (k + 1)) (by rw [List.length_drop, Hlen.out]; exact Nat.le_refl _)]
          simp
        · have hb : ((chk ((lst s).take (k + 1)) : Int) != 0) = true := by rw [bne_iff_ne]; exact hck
          have Hck := Lib.hid hck
          clear hck
          have e1 : Hid (firstN (lst s) = none) := by
            show firstN (lst s) = _
            unfold firstN; rw [Hk.out, if_neg (fun h => Hck.out h.2)]
          go_wp2_with fail
          refine (rcheck_any (s.extract 0 (k + 1)) _ (by rw [ByteArray.size_extract]; omega)).mono ?_
          rw [Hext.out]
          rintro e w1 ⟨rfl, h1⟩
          go_wp2
          go_ret3
          unfold FirstPost; rw [e1.out]
          exact ⟨h1, rfl⟩
      · have h0 : ((c : Int) != 0) = true := by simp [hc0]
        have Hk : Hid (skip (lst s) = k + 1 + c + skip ((lst s).drop (k + 1 + c))) := Lib.hid (by rw [Hsk.out, skip_step Hget.out (fun h => hc0 (by rw [← hcv, h]; rfl)), hcv]; omega)
        clear hc0
        go_wp2
        go_round
        case rel => exact ⟨k + 1 + c, by go_num, by omega, Hk.out⟩
        case measure => simp [intOf]; omega
    · have Hk : Hid (skip (lst s) = k) := Lib.hid (by rw [Hsk.out, skip_end (by rw [lst_length]; omega)]; rfl)
      go_wp2
      go_ret3
      unfold FirstPost firstN
      rw [if_neg (by rw [Hk.out, lst_length]; omega)]
      exact ⟨Below.refl _ _, rfl⟩
end Go.Proofs.Ytihfapnipifiiaa
/- The walks of the reference of package record: Names, Right, Check. -/
namespace Go.Proofs.Ytihfapnipifiiaa
open Go Go.RowKit Go.Shelf

/-- What 'Names' hands back. -/
def NamesPost (t : Int) (d : List UInt8) (w : World) (e : Ending) (w' : World) : Prop :=
  ∃ (a b : ByteArray) (v : Value) (ns : List (List UInt8)), e = .returned (.tuple #[.string a, v, .string b, .bool (namedT t && cutOk (shapeL t) d)]) ∧ Below w.heap.size w w' ∧ Strs w' w.heap.size v ns ∧
    (namedT t = true → ∀ ns' r, cutL (shapeL t) d = some (ns', r) → ns = ns' ∧ a = bs (d.take (shapeL t).1) ∧ b = bs r)

set_option maxRecDepth 100000 in
set_option maxHeartbeats 2000000 in
theorem rnames_any (t : Int) (d : ByteArray) (w : World) (hs : d.size ≤ 1048576) :
    Calls Try.prog 113 #[.int .u16 t, .string d] w (NamesPost t (lst d) w) := by
  obtain ⟨i0, hi, hz0, hz1, hz2⟩ := info_parts info_string
  have Hlen := Lib.hid (lst_length d)
  go_enter Try.func113, Try.ntmps113
  go_wp2_with fail
  refine (rhead_any t _).mono ?_
  rintro e w1 ⟨rfl, rfl⟩
  cases hn : namedT t with
  | false =>
    have Hn := Lib.hid hn
    clear hn
    go_wp2
    refine bodyPost_ret (v := .tuple #[.string ⟨#[]⟩, .slice none 0 0, .string ⟨#[]⟩, .bool false]) (by simp [results, Try.results113, go_sem]) rfl ?_
    exact ⟨⟨#[]⟩, ⟨#[]⟩, .slice none 0 0, [], by rw [Hn.out]; rfl, Below.refl _ _, Strs.nil _ _, fun h => (by rw [Hn.out] at h; cases h)⟩
  | true =>
    have Hn := Lib.hid hn
    clear hn
    obtain ⟨g1, g2, g3⟩ := shapeL_le t
    obtain ⟨sh, HSH⟩ : ∃ sh, Hid (shapeL t = sh) := ⟨_, rfl⟩
    rw [HSH.out] at g1 g2 g3 ⊢
    obtain ⟨ah, nn, bh⟩ := sh
    dsimp only at g1 g2 g3 ⊢
    by_cases hlt : d.size < ah
    · have e : cutL (ah, nn, bh) (lst d) = none := by unfold cutL; rw [if_pos (by rw [Hlen.out]; exact hlt)]
      have E := Lib.hid e
      clear e
      go_wp2
      refine bodyPost_ret (v := .tuple #[.string ⟨#[]⟩, .slice none 0 0, .string ⟨#[]⟩, .bool false]) (by simp [results, Try.results113, go_sem]) rfl ?_
      refine ⟨⟨#[]⟩, ⟨#[]⟩, .slice none 0 0, [], ?_, Below.refl _ _, Strs.nil _ _, fun _ ns' r hc => ?_⟩
      · rw [Hn.out, HSH.out]; unfold cutOk; rw [E.out]; rfl
      · rw [HSH.out, E.out] at hc; cases hc
    · have hge : ah ≤ d.size := by omega
      have hext : d.extract ah d.size = bs ((lst d).drop ah) := by
        rw [extract_bs, List.take_of_length_le]; rw [List.length_drop, lst_length]; exact Nat.le_refl _
      have Hext := Lib.hid hext
      clear hext
      go_wp2
      rw [Hext.out]
      go_loopw [12, 13, 14] (fun r_ v_ k_ wr => ∃ (k : Nat) (ns : List (List UInt8)) (rest : List UInt8), r_ = .string (bs rest) ∧ k_ = .int .i64 k ∧ k ≤ nn ∧ takeN k ((lst d).drop ah) = some (ns, rest) ∧
          Strs wr w.heap.size v_ ns ∧ Below w.heap.size w wr) (fun _ _ k_ _ => nn - (intOf k_).toNat)
      case atStart => exact ⟨0, [], _, rfl, rfl, Nat.zero_le _, rfl, Strs.nil _ _, Below.refl _ _⟩
      case round =>
        obtain ⟨k, ns, rest, rfl, rfl, hk, ht, hst, hB⟩ := hrel
        have Ht := Lib.hid ht
        have tl := takeN_len _ _ _ _ ht
        have hns : ns.length ≤ 4 := by omega
        have hrl : rest.length ≤ 1048576 := by have h2 := tl.2; rw [List.length_drop, lst_length] at h2; omega
        have Hst := Lib.hid hst
        have hzr := hB.size
        clear ht tl hst
        by_cases hkn : k < nn
        · go_wp2_with fail
          refine (rfirst_any (bs rest) _ (by rw [bs_size]; exact hrl)).mono ?_
          rw [lst_bs]
          rintro e w2 ⟨h2, he⟩
          have hz2' := h2.size
          have Hst2 := Lib.hid (Hst.out.below h2)
          have HB2 : Hid (Below w.heap.size w w2) := Lib.hid (hB.trans (h2.mono hzr))
          cases hf : firstN rest with
          | none =>
            rw [hf] at he
            subst he
            have Hf := Lib.hid hf
            clear hf h2
            have e1 : cutL (ah, nn, bh) (lst d) = none := by
              unfold cutL; rw [if_neg (by rw [Hlen.out]; omega)]
              exact takeN_none Ht.out Hf.out _ hkn
            have E1 := Lib.hid e1
            clear e1
            go_wp2
            refine bodyPost_ret (v := .tuple #[.string ⟨#[]⟩, .slice none 0 0, .string ⟨#[]⟩, .bool false]) (by simp [results, Try.results113, go_sem]) rfl ?_
            refine ⟨⟨#[]⟩, ⟨#[]⟩, .slice none 0 0, [], ?_, HB2.out, Strs.nil _ _, fun _ ns' r hc => ?_⟩
            · rw [Hn.out, HSH.out]; unfold cutOk; rw [E1.out]; rfl
            · rw [HSH.out, E1.out] at hc; cases hc
          | some p =>
            obtain ⟨x, rest'⟩ := p
            rw [hf] at he
            subst he
            have Hf := Lib.hid hf
            clear hf h2
            go_wp2_with (at_builtin; refine wpList_append_own _ rfl _ _ 47 rfl w.heap.size 9 i0 (.string ⟨#[]⟩) 1 16 Try.underlying47 hi hz0 hz1 hz2 rfl (by decide) _ _ _ rfl (Hst2.out.alloc _) ⟨w2.heap.size, 0, none⟩ 1 1 [.string (bs x)] rfl rfl (cell_one_new _ _ _) ?c2 ?c3 ?c4 ?c5 ?_)
            case c2 => intro u hu; simp only [List.mem_singleton] at hu; subst hu; rfl
            case c3 => simp only [maxLen]; omega
            case c4 => omega
            case c5 => simp; omega
            intro v' w3 hown3 hgrow3 _
            have Hown3 : Hid (Strs w3 w.heap.size v' (ns ++ [x])) := Lib.hid (by unfold Strs; simpa using hown3)
            have HB3 : Hid (Below w.heap.size w w3) := Lib.hid ((HB2.out.alloc (by omega) _).grown hgrow3 (by simp; omega) (fun k hk => (own_cells Hst2.out k hk).1))
            clear hown3 hgrow3
            go_wp2
            go_roundw
            case rel => exact ⟨k + 1, ns ++ [x], rest', rfl, by go_num, by omega, by unfold takeN; rw [Ht.out]; dsimp only; rw [Hf.out], Hown3.out, HB3.out⟩
            case measure => simp [intOf]; omega
        · have hkn' : k = nn := by omega
          have e1 : cutL (ah, nn, bh) (lst d) = some (ns, rest) := by
            unfold cutL; rw [if_neg (by rw [Hlen.out]; omega), ← hkn']; exact Ht.out
          have E1 := Lib.hid e1
          clear e1 hkn'
          have E2 : Hid (cutOk (ah, nn, bh) (lst d) = ((rest.length : Int) == (bh : Int))) := by
            show cutOk (ah, nn, bh) (lst d) = _
            unfold cutOk; rw [E1.out]; exact (beq_cast _ _).symm
          have hsz : (bs rest).size = rest.length := bs_size rest
          go_wp2
          refine bodyPost_ret (v := .tuple #[.string (d.extract 0 ah), u13, .string (bs rest), .bool ((rest.length : Int) == (bh : Int))]) (by simp [results, Try.results113, go_sem]) rfl ?_
          refine ⟨d.extract 0 ah, bs rest, u13, ns, ?_, hB, Hst.out, fun _ ns' r hc => ?_⟩
          · rw [Hn.out, HSH.out, E2.out]; rfl
          · rw [HSH.out, E1.out] at hc; cases hc; rw [HSH.out]; exact ⟨rfl, by rw [extract_bs]; simp, rfl⟩

set_option maxRecDepth 100000 in
set_option maxHeartbeats 1000000 in
theorem rright_any (t : Int) (d : ByteArray) (w : World) (hs : d.size ≤ 1048576) :
    Calls Try.prog 92 #[.int .u16 t, .string d] w fun e w' => e = .returned (.bool (rightL t (lst d))) ∧ Below w.heap.size w w' := by
  have Hlen := Lib.hid (lst_length d)
  have nb : ∀ c : Int, t ≠ c → (t == c) = false := fun c h => beq_eq_false_iff_ne.2 h
  cases hn : namedT t with
  | true =>
    have hsh : shapeL t ≠ (0, 0, 0) := by intro h; unfold namedT at hn; rw [h] at hn; cases hn
    have n1 : t ≠ 1 := by rintro rfl; exact hsh rfl
    have n28 : t ≠ 28 := by rintro rfl; exact hsh rfl
    have n16 : t ≠ 16 := by rintro rfl; exact hsh rfl
    have hr : rightL t (lst d) = cutOk (shapeL t) (lst d) := by unfold rightL; rw [if_neg n1, if_neg n28, if_neg n16, decide_eq_false hsh]; simp
    have Hr := Lib.hid hr
    have Hn := Lib.hid hn
    clear hr nb hn hsh n1 n28 n16
    go_enter Try.func92, Try.ntmps92
    go_wp2_with fail
    refine (rhead_any t _).mono ?_
    rw [Hn.out]
    rintro e w1 ⟨rfl, rfl⟩
    go_wp2_with fail
    refine (rnames_any t d _ hs).mono ?_
    rintro e w1 ⟨a, b, v, ns, rfl, h1, hst, _⟩
    rw [Hn.out]
    go_wp2
    go_ret
    exact ⟨by rw [Hr.out]; rfl, h1⟩
  | false =>
    have hsh : shapeL t = (0, 0, 0) := by unfold namedT at hn; simpa using hn
    have Hn := Lib.hid hn
    have Hsh := Lib.hid hsh
    clear hn hsh
    go_enter Try.func92, Try.ntmps92
    go_wp2_with fail
    refine (rhead_any t _).mono ?_
    rw [Hn.out]
    rintro e w1 ⟨rfl, rfl⟩
    by_cases e1 : t = 1
    · subst e1
      have hr : rightL 1 (lst d) = ((d.size : Int) == (4 : Nat)) := by unfold rightL; rw [if_pos rfl, Hlen.out, beq_cast]
      have Hr := Lib.hid hr
      clear hr nb
      go_wp2
      go_ret
      exact ⟨by rw [Hr.out]; rfl, Below.refl _ _⟩
    by_cases e28 : t = 28
    · subst e28
      have hr : rightL 28 (lst d) = ((d.size : Int) == (16 : Nat)) := by unfold rightL; rw [if_neg (by decide), if_pos rfl, Hlen.out, beq_cast]
      have Hr := Lib.hid hr
      clear hr nb
      go_wp2
      go_ret
      exact ⟨by rw [Hr.out]; rfl, Below.refl _ _⟩
    by_cases e16 : t = 16
    · subst e16
      have hr : rightL 16 (lst d) = (decide (pieces (lst d) = d.size) && decide (0 < d.size)) := by unfold rightL; rw [if_neg (by decide), if_neg (by decide), if_pos rfl, Hlen.out]
      have Hr := Lib.hid hr
      clear hr nb
      go_wp2
      go_loop [13] (fun at_ => ∃ k : Nat, at_ = .int .i64 k ∧ k ≤ d.size + 300 ∧ (k = 0 ∨ 0 < d.size) ∧ pieces (lst d) = k + pieces ((lst d).drop k)) (fun at_ => d.size + 300 - (intOf at_).toNat)
      case atStart => exact ⟨0, rfl, by omega, .inl rfl, by simp⟩
      case round =>
        obtain ⟨k, rfl, hk, hk0, hp⟩ := hrel
        have Hp := Lib.hid hp
        have Hk0 := Lib.hid hk0
        clear hp hk0
        by_cases hlt : k < d.size
        · obtain ⟨c, hcv⟩ : ∃ c, d[k].toNat = c := ⟨_, rfl⟩
          have hc255 : c ≤ 255 := by have := d[k].toNat_lt; omega
          have Hk : Hid (pieces (lst d) = k + 1 + c + pieces ((lst d).drop (k + 1 + c))) := by
            show pieces (lst d) = _
            rw [Hp.out, pieces_step (lst_get d k hlt), hcv]; omega
          go_wp2
          go_round
          case rel => exact ⟨k + 1 + c, by go_num, by omega, .inr (by omega), Hk.out⟩
          case measure => simp [intOf]; omega
        · have Hk : Hid (pieces (lst d) = k) := by
            show pieces (lst d) = _
            rw [Hp.out, pieces_end (by rw [Hlen.out]; omega)]; rfl
          by_cases hkd : k = d.size
          · have b1 : ((k : Int) == (d.size : Int)) = true := by rw [beq_iff_eq]; omega
            have Hkd := Lib.hid hkd
            clear hkd
            by_cases hz : 0 < d.size
            · have hz' : 0 < k := by have := Hkd.out; omega
              go_wp2
              go_ret
              exact ⟨by rw [Hr.out, Hk.out, decide_eq_true Hkd.out, decide_eq_true hz]; simp <;> omega, Below.refl _ _⟩
            · have hz' : ¬ 0 < k := by have := Hkd.out; omega
              go_wp2
              go_ret
              exact ⟨by rw [Hr.out, Hk.out, decide_eq_true Hkd.out, decide_eq_false hz]; simp <;> omega, Below.refl _ _⟩
          · have b1 : ((k : Int) == (d.size : Int)) = false := by rw [beq_eq_false_iff_ne]; omega
            have Hkd := Lib.hid hkd
            clear hkd
            go_wp2
            go_ret
            exact ⟨by rw [Hr.out, Hk.out, decide_eq_false Hkd.out]; rfl, Below.refl _ _⟩
    have b1 := nb 1 e1
    have b28 := nb 28 e28
    have b16 := nb 16 e16
    have hr : rightL t (lst d) = true := by unfold rightL; rw [if_neg e1, if_neg e28, if_neg e16, decide_eq_true Hsh.out]; simp
    have Hr := Lib.hid hr
    clear hr nb e1 e28 e16
    go_wp2
    go_ret
    exact ⟨by rw [Hr.out]; rfl, Below.refl _ _⟩

set_option maxRecDepth 100000 in
set_option maxHeartbeats 1000000 in
theorem rreccheck_any (r : RRec) (w : World) (hn : r.name.length ≤ 1048576) (hd : r.data.length ≤ 1048576) :
    Calls Try.prog 54 #[r.val] w fun e w' => e = .returned (.int .i64 (rchk r.name r.t r.data)) ∧ Below w.heap.size w w' := by
  unfold RRec.val
  have hdl : (bs r.data).size = r.data.length := bs_size _
  go_enter Try.func54, Try.ntmps54
  go_wp2_with fail
  refine (rcheck_any (bs r.name) _ (by rw [bs_size]; omega)).mono ?_
  rw [lst_bs]
  rintro e w1 ⟨rfl, h1⟩
  have hz1 := h1.size
  have c1 : w1.cell? ⟨w.heap.size, 1, none⟩ = some (.int .u16 r.t) := (h1.cell (by simp)).trans (by go_simp)
  have c4 : w1.cell? ⟨w.heap.size, 4, none⟩ = some (.string (bs r.data)) := (h1.cell (by simp)).trans (by go_simp)
  have hB : Below w.heap.size w w1 := ((Below.refl _ w).alloc (Nat.le_refl _) _).trans (h1.mono (by simp))
  have HB := Lib.hid hB
  clear h1 hB
  by_cases hc : chk r.name = 0
  · have hb : ((chk r.name : Int) != 0) = false := by rw [hc]; rfl
    have Hc := Lib.hid hc
    clear hc
    by_cases hbig : 2000 < r.data.length
    · go_wp2
      go_ret
      exact ⟨by unfold rchk; rw [if_neg (fun h => h Hc.out), if_pos hbig]; rfl, HB.out⟩
    · go_wp2_with fail
      refine (rright_any r.t (bs r.data) _ (by rw [bs_size]; exact hd)).mono ?_
      rw [lst_bs]
      rintro e w2 ⟨rfl, h2⟩
      cases hrt : rightL r.t r.data with
      | true =>
        have Hrt := Lib.hid hrt
        clear hrt
        go_wp2
        go_ret
        exact ⟨by unfold rchk; rw [if_neg (fun h => h Hc.out), if_neg hbig, if_pos Hrt.out]; rfl, HB.out.trans (h2.mono HB.out.size)⟩
      | false =>
        have Hrt := Lib.hid hrt
        clear hrt
        go_wp2
        go_ret
        exact ⟨by unfold rchk; rw [if_neg (fun h => h Hc.out), if_neg hbig, if_neg (by rw [Hrt.out]; simp)]; rfl, HB.out.trans (h2.mono HB.out.size)⟩
  · have hb : ((chk r.name : Int) != 0) = true := by rw [bne_iff_ne]; exact hc
    have Hc := Lib.hid hc
    clear hc
    go_wp2
    go_ret
    exact ⟨by unfold rchk; rw [if_pos Hc.out]; rfl, HB.out⟩
end Go.Proofs.Ytihfapnipifiiaa
/- A cache's keys, as lists of bytes. -/
namespace Go.Proofs.Ytihfapnipifiiaa
/-- The two bytes of a number of 16 bits. -/
def two8 (t : Int) : List UInt8 := [UInt8.ofNat (t / 256).toNat, UInt8.ofNat (t % 256).toNat]
/-- A key. -/
def keyL (p : UInt8) (n : List UInt8) (t c : Int) : List UInt8 := [p] ++ low n ++ two8 t ++ two8 c
end Go.Proofs.Ytihfapnipifiiaa
/- How a cache's items lie in memory. -/
namespace Go.Proofs.Ytihfapnipifiiaa
open Go Go.RowKit Go.Shelf

theorem bel_alloc {w W : World} (h : Below w.heap.size w W) (o : Obj) : Below w.heap.size w (W.alloc o) := h.alloc h.size o

/-- An entry of a cache. -/
structure Ent where
  kind : Int
  name : List UInt8
  t : Int
  c : Int
  recs : List RRec
  til : Int
  rank : Int
  epoch : Int
  source : Int
def Ent.key (e : Ent) : List UInt8 := if e.kind = 3 then keyL 1 e.name 0 e.c else keyL 0 e.name e.t e.c
def Ent.vals (e : Ent) (rv : Value) : List Value := [.int .i64 e.kind, .string (bs e.name), .int .u16 e.t, .int .u16 e.c, rv, .int .i64 e.til, .int .i64 e.rank, .int .i64 e.epoch, .int .i64 e.source]

/-- Records in memory, to be read. -/
def RecsAt (w : World) (v : Value) (rs : List RRec) : Prop :=
  ∃ A cap, v = .slice A rs.length cap ∧ rs.length ≤ cap ∧ (rs = [] ∨ ∃ b off, A = some ⟨b, off, none⟩ ∧ ∀ i r, rs[i]? = some r → ∀ j u, r.cells[j]? = some u → w.cell? ⟨b, off + i * 5 + j, none⟩ = some u)
theorem RecsAt.below {w w' : World} {v : Value} {rs : List RRec} (h : RecsAt w v rs) (hb : Below w.heap.size w w') : RecsAt w' v rs := by
  obtain ⟨A, cap, e, hc, h⟩ := h
  refine ⟨A, cap, e, hc, h.imp id ?_⟩
  rintro ⟨b, off, ea, hk⟩
  exact ⟨b, off, ea, fun i r hi j u hj => (hb.cell (blk_of_cell (hk i r hi j u hj))).trans (hk i r hi j u hj)⟩

/-- An item. -/
structure It where
  ent : Ent
  used : Int
  blk : Nat
  rv : Value
def It.cells (x : It) (at_ : Nat) : Array Value :=
  #[.int .i64 x.ent.kind, .string (bs x.ent.name), .int .u16 x.ent.t, .int .u16 x.ent.c, x.rv, .int .i64 x.ent.til, .int .i64 x.ent.rank, .int .i64 x.ent.epoch, .int .i64 x.ent.source,
    .string (bs x.ent.key), .int .i64 x.used, .int .i64 at_]
def It.ptr (x : It) : Value := .pointer (some ⟨x.blk, 0, none⟩)

/-- An item's block. -/
def ItemAt (W : World) (x : It) (at_ : Nat) : Prop := W.heap[x.blk]? = some (.cells (x.cells at_) 103 (0, 0))
theorem ItemAt.cell {W : World} {x : It} {a : Nat} (h : ItemAt W x a) {o : Nat} {v : Value} (ho : (x.cells a)[o]? = some v) : W.cell? ⟨x.blk, o, none⟩ = some v := by
  unfold ItemAt at h; simp [World.cell?, h, ho]
theorem ItemAt.free {W : World} {x : It} {a : Nat} (h : ItemAt W x a) (o : Nat) : W.frozen? ⟨x.blk, o, none⟩ = false := by
  unfold ItemAt at h; simp [World.frozen?, h]
theorem ItemAt.setAt {W : World} {x : It} {a : Nat} (h : ItemAt W x a) (b : Nat) : ItemAt (W.setCell ⟨x.blk, 11, none⟩ (.int .i64 b)) x b := by
  unfold ItemAt at h ⊢
  simp [World.setCell, Array.getElem?_modify, h, It.cells]
theorem ItemAt.setUsed {W : World} {x : It} {a : Nat} (h : ItemAt W x a) (u : Int) : ItemAt (W.setCell ⟨x.blk, 10, none⟩ (.int .i64 u)) { x with used := u } a := by
  unfold ItemAt at h ⊢
  simp [World.setCell, Array.getElem?_modify, h, It.cells]
theorem ItemAt.same {W W' : World} {x : It} {a : Nat} (h : ItemAt W x a) (e : W'.heap[x.blk]? = W.heap[x.blk]?) : ItemAt W' x a := e.trans h
theorem ItemAt.lt {W : World} {x : It} {a : Nat} (h : ItemAt W x a) : x.blk < W.heap.size := (Array.getElem?_eq_some_iff.1 h).1

/-- The row of a heap, in a block of its own: the pointers to its items; each item knows where it stands. -/
structure HeapRow (W : World) (g cap : Nat) (its : List It) : Prop where
  row : RowIs W g 100 cap (fun i => ((its[i]?).map It.ptr).getD undef) its.length
  items : ∀ i x, its[i]? = some x → ItemAt W x i
  nodup : (its.map It.blk).Nodup
  le : its.length ≤ cap
  most : cap ≤ maxLen

/-- Only some blocks have turned. -/
structure ModS (S : Nat → Prop) (w w' : World) : Prop where
  os : w'.os = w.os
  tape : w'.tape = w.tape
  output : w'.output = w.output
  size : w.heap.size ≤ w'.heap.size
  block : ∀ k, k < w.heap.size → ¬ S k → w'.heap[k]? = w.heap[k]?
theorem ModS.refl (S : Nat → Prop) (w : World) : ModS S w w := ⟨rfl, rfl, rfl, Nat.le_refl _, fun _ _ _ => rfl⟩
theorem ModS.trans {S : Nat → Prop} {a b c : World} (h : ModS S a b) (k : ModS S b c) : ModS S a c :=
  ⟨k.os.trans h.os, k.tape.trans h.tape, k.output.trans h.output, Nat.le_trans h.size k.size, fun i hi hn => (k.block i (Nat.lt_of_lt_of_le hi h.size) hn).trans (h.block i hi hn)⟩
theorem ModS.mono {S T : Nat → Prop} {a b : World} (h : ModS S a b) (hs : ∀ k, S k → T k) : ModS T a b := ⟨h.os, h.tape, h.output, h.size, fun k hk hn => h.block k hk (fun hS => hn (hs k hS))⟩
theorem ModS.drew {S : Nat → Prop} {a b : World} (h : ModS S a b) : ModS S a b.drew := ⟨h.os, h.tape, h.output, h.size, h.block⟩
theorem ModS.drewN {S : Nat → Prop} {a b : World} (h : ModS S a b) (n : Nat) : ModS S a (b.drewN n) := ⟨h.os, h.tape, h.output, h.size, h.block⟩
theorem ModS.set {S : Nat → Prop} {a b : World} (h : ModS S a b) {p : Addr} (hp : S p.block) (v : Value) : ModS S a (b.setCell p v) :=
  h.trans ⟨rfl, rfl, rfl, by simp [World.setCell], fun k _ hn => Below.heap_setCell _ _ _ _ (fun e => hn (by rw [e]; exact hp))⟩
theorem ModS.alloc {S : Nat → Prop} {a b : World} (h : ModS S a b) (o : Obj) : ModS S a (b.alloc o) :=
  h.trans ⟨rfl, rfl, rfl, by simp, fun k hk _ => Below.heap_alloc _ _ _ hk⟩
theorem ModS.below {S : Nat → Prop} {a b c : World} (h : ModS S a b) (k : Below b.heap.size b c) : ModS S a c :=
  h.trans ⟨k.os, k.tape, k.output, k.size, fun i hi _ => k.block i hi⟩
theorem ModS.grown {S : Nat → Prop} {a b c : World} {row : Option Nat} (h : ModS S a b) (k : b.grownBy c row) (hr : ∀ j, row = some j → S j) : ModS S a c :=
  h.trans ⟨k.os, k.tape, k.output, k.size, fun i hi hn => k.block i hi (fun e => hn (hr i e.symm))⟩
theorem ModS.below_of {S : Nat → Prop} {B : Nat} {w a b : World} (hb : Below B w a) (h : ModS S a b) (hB : B ≤ a.heap.size) (hS : ∀ k, S k → B ≤ k) : Below B w b :=
  hb.trans ⟨h.os, h.tape, h.output, h.size, fun k hk => h.block k (by omega) (fun hs => by have := hS k hs; omega)⟩
end Go.Proofs.Ytihfapnipifiiaa
