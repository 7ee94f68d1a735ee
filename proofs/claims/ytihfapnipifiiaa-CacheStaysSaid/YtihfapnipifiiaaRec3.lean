/- The walks of package record: right, Check, Life. -/
import Derived.Test.YtihfapnipifiiaaRec2
namespace Go.Proofs.Ytihfapnipifiiaa
open Go Go.RowKit Go.Shelf

theorem shapeL_cases (t : Int) : shapeL t = (0, 1, 0) ∨ shapeL t = (2, 1, 0) ∨ shapeL t = (0, 2, 20) ∨ shapeL t = (0, 0, 0) := by
  unfold shapeL
  by_cases h : t = 2 ∨ t = 5 ∨ t = 12
  · rw [if_pos h]; exact .inl rfl
  · rw [if_neg h]
    by_cases h2 : t = 15
    · rw [if_pos h2]; exact .inr (.inl rfl)
    · rw [if_neg h2]
      by_cases h3 : t = 6
      · rw [if_pos h3]; exact .inr (.inr (.inl rfl))
      · rw [if_neg h3]; exact .inr (.inr (.inr rfl))
theorem shapeL_le (t : Int) : (shapeL t).1 ≤ 2 ∧ (shapeL t).2.1 ≤ 2 ∧ (shapeL t).2.2 ≤ 20 := by
  rcases shapeL_cases t with h | h | h | h <;> rw [h] <;> simp

set_option maxRecDepth 100000 in
set_option maxHeartbeats 1000000 in
theorem right_any (t : Int) (d : ByteArray) (w : World) (h0 : 0 ≤ t) (h1 : t ≤ 65535) (hs : d.size ≤ 1048576) :
    Calls Try.prog 91 #[.int .u16 t, .string d] w fun e w' => e = .returned (.bool (rightL t (lst d))) ∧ Below w.heap.size w w' := by
  have Hlen := Lib.hid (lst_length d)
  have nb : ∀ c : Int, t ≠ c → (t == c) = false := fun c h => beq_eq_false_iff_ne.2 h
  by_cases e1 : t = 1
  · subst e1
    have hr : rightL 1 (lst d) = ((d.size : Int) == (4 : Nat)) := by unfold rightL; rw [if_pos rfl, Hlen.out, beq_cast]
    have Hr := Lib.hid hr
    clear hr nb
    go_enter Try.func91, Try.ntmps91
    go_wp2
    go_ret
    exact ⟨by rw [Hr.out]; rfl, Below.refl _ _⟩
  by_cases e28 : t = 28
  · subst e28
    have hr : rightL 28 (lst d) = ((d.size : Int) == (16 : Nat)) := by unfold rightL; rw [if_neg (by decide), if_pos rfl, Hlen.out, beq_cast]
    have Hr := Lib.hid hr
    clear hr nb
    go_enter Try.func91, Try.ntmps91
    go_wp2
    go_ret
    exact ⟨by rw [Hr.out]; rfl, Below.refl _ _⟩
  by_cases e16 : t = 16
  · subst e16
    have hr : rightL 16 (lst d) = (decide (pieces (lst d) = d.size) && decide (0 < d.size)) := by unfold rightL; rw [if_neg (by decide), if_neg (by decide), if_pos rfl, Hlen.out]
    have Hr := Lib.hid hr
    clear hr nb
    go_enter Try.func91, Try.ntmps91
    go_wp2
    go_loop [5] (fun at_ => ∃ k : Nat, at_ = .int .i64 k ∧ k ≤ d.size + 300 ∧ pieces (lst d) = k + pieces ((lst d).drop k)) (fun at_ => d.size + 300 - (intOf at_).toNat)
    case atStart => exact ⟨0, rfl, by omega, by simp⟩
    case round =>
      obtain ⟨k, rfl, hk, hp⟩ := hrel
      have Hp := Lib.hid hp
      clear hp
      by_cases hlt : k < d.size
      · obtain ⟨c, hcv⟩ : ∃ c, d[k].toNat = c := ⟨_, rfl⟩
        have hc255 : c ≤ 255 := by have := d[k].toNat_lt; omega
        have Hk : Hid (pieces (lst d) = k + 1 + c + pieces ((lst d).drop (k + 1 + c))) := by
          show pieces (lst d) = _
          rw [Hp.out, pieces_step (lst_get d k hlt), hcv]; omega
        go_wp2
        go_round
        case rel => exact ⟨k + 1 + c, by go_num, by omega, Hk.out⟩
        case measure => simp [intOf]; omega
      · have Hk : Hid (pieces (lst d) = k) := by
          show pieces (lst d) = _
          rw [Hp.out, pieces_end (by rw [Hlen.out]; omega)]; rfl
        by_cases hkd : k = d.size
        · have b1 : ((k : Int) == (d.size : Int)) = true := by rw [beq_iff_eq]; omega
          have Hkd := Lib.hid hkd
          clear hkd
          by_cases hz : 0 < d.size
          · have b2 : (!d.toList.isEmpty) = true := by rw [toList_lst]; cases hl : lst d with
              | nil => have := congrArg List.length hl; rw [Hlen.out, List.length_nil] at this; omega
              | cons _ _ => rfl
            have b3 : d.toList.isEmpty = false := by simpa using b2
            go_wp2
            go_ret
            exact ⟨by rw [Hr.out, Hk.out, decide_eq_true Hkd.out, decide_eq_true hz]; rfl, Below.refl _ _⟩
          · have b3 : d.toList.isEmpty = true := by rw [toList_lst]; cases hl : lst d with
              | nil => rfl
              | cons _ _ => have := congrArg List.length hl; rw [Hlen.out, List.length_cons] at this; omega
            go_wp2
            go_ret
            exact ⟨by rw [Hr.out, Hk.out, decide_eq_true Hkd.out, decide_eq_false hz]; rfl, Below.refl _ _⟩
        · have b1 : ((k : Int) == (d.size : Int)) = false := by rw [beq_eq_false_iff_ne]; omega
          have Hkd := Lib.hid hkd
          clear hkd
          go_wp2
          go_ret
          exact ⟨by rw [Hr.out, Hk.out, decide_eq_false Hkd.out]; rfl, Below.refl _ _⟩
  have b1 := nb 1 e1
  have b28 := nb 28 e28
  have b16 := nb 16 e16
  have hr : rightL t (lst d) = (cutOk (shapeL t) (lst d) || decide (shapeL t = (0, 0, 0))) := by unfold rightL; rw [if_neg e1, if_neg e28, if_neg e16]
  have Hr := Lib.hid hr
  have hle := shapeL_le t
  clear hr nb e1 e28 e16
  go_enter Try.func91, Try.ntmps91
  go_wp2_with fail
  refine (shapeOf_any t _ h0 h1).mono ?_
  rintro e w1 ⟨rfl, h1'⟩
  have hz1 := h1'.size
  go_wp2_with fail
  refine (cut_any (shapeL t) d _ hs hle).mono ?_
  rintro e w2 ⟨a, b, v, ns, rfl, h2, hst, _⟩
  have hz2 := h2.size
  have hb2 : Below w.heap.size w w2 := h1'.trans (h2.mono hz1)
  obtain ⟨A, cap, rfl⟩ := hst.shape
  clear h1' h2 hst
  cases hc : cutOk (shapeL t) (lst d) with
  | true =>
    have Hc := Lib.hid hc
    clear hc
    go_wp2
    go_ret
    exact ⟨by rw [Hr.out, Hc.out]; rfl, hb2.alloc (by omega) _⟩
  | false =>
    have Hc := Lib.hid hc
    clear hc
    go_wp2_with fail
    refine (shapeOf_any t _ h0 h1).mono ?_
    rintro e w3 ⟨rfl, h3⟩
    have hz3 := h3.size
    have hb3 : Below w.heap.size w w3 := (hb2.alloc (by omega) _).trans (h3.mono (by simp; omega))
    have Hb3 := Lib.hid hb3
    clear hb3 h3 hb2
    rcases shapeL_cases t with hS | hS | hS | hS
    all_goals (rw [hS] at Hr Hc ⊢; unfold shapeV; have HS := Lib.hid hS; clear hS; go_wp2; go_ret)
    all_goals (refine ⟨?_, Hb3.out⟩; rw [Hr.out, Hc.out]; rfl)

theorem life_any (t : Int) (w : World) (h0 : 0 ≤ t) (h1 : t ≤ 4294967295) :
    Calls Try.prog 73 #[.int .u32 t] w fun e w' => e = .returned (.int .u32 (if t < 2147483648 then t else 0)) ∧ w = w' := by
  by_cases h : t < 2147483648
  · have e : t / 2147483648 = 0 := by omega
    go_enter Try.func73, Try.ntmps73
    go_wp2
    go_ret
    exact ⟨rfl, rfl⟩
  · have e : t / 2147483648 = 1 := by omega
    go_enter Try.func73, Try.ntmps73
    go_wp2
    go_ret
    exact ⟨rfl, rfl⟩

/-- A record of Go's. -/
structure RRec where
  name : List UInt8
  t : Int
  c : Int
  ttl : Int
  data : List UInt8
def RRec.cells (r : RRec) : List Value := [.string (bs r.name), .int .u16 r.t, .int .u16 r.c, .int .u32 r.ttl, .string (bs r.data)]
def RRec.val (r : RRec) : Value := .agg #[.string (bs r.name), .int .u16 r.t, .int .u16 r.c, .int .u32 r.ttl, .string (bs r.data)]
structure RRec.ok (r : RRec) : Prop where
  t0 : 0 ≤ r.t
  t1 : r.t ≤ 65535
  c0 : 0 ≤ r.c
  c1 : r.c ≤ 65535
  l0 : 0 ≤ r.ttl
  l1 : r.ttl ≤ 4294967295

set_option maxRecDepth 100000 in
set_option maxHeartbeats 1000000 in
theorem reccheck_any (r : RRec) (w : World) (hr : r.ok) (hn : r.name.length ≤ 1048576) (hd : r.data.length ≤ 1048576) :
    Calls Try.prog 52 #[r.val] w fun e w' => e = .returned (.int .i64 (rchk r.name r.t r.data)) ∧ Below w.heap.size w w' := by
  unfold RRec.val
  have hdl : (bs r.data).size = r.data.length := bs_size _
  go_enter Try.func52, Try.ntmps52
  go_wp2_with fail
  refine (check_any (bs r.name) _ (by rw [bs_size]; omega)).mono ?_
  rw [lst_bs]
  rintro e w1 ⟨rfl, h1⟩
  have hz1 := h1.size
  have c1 : w1.cell? ⟨w.heap.size, 1, none⟩ = some (.int .u16 r.t) := (h1.cell (by simp)).trans (by go_simp)
  have c4 : w1.cell? ⟨w.heap.size, 4, none⟩ = some (.string (bs r.data)) := (h1.cell (by simp)).trans (by go_simp)
  have hB : Below w.heap.size w w1 := ((Below.refl _ w).alloc (Nat.le_refl _) _).trans (h1.mono (by simp))
  have HB := Lib.hid hB
  clear h1 hB
  by_cases hc : chk r.name = 0
  · have hb : ((chk r.name : Int) != 0) = false := by rw [hc]; rfl
    have Hc := Lib.hid hc
    clear hc
    by_cases hbig : 2000 < r.data.length
    · go_wp2
      go_ret
      exact ⟨by unfold rchk; rw [if_neg (fun h => h Hc.out), if_pos hbig]; rfl, HB.out⟩
    · go_wp2_with fail
      refine (right_any r.t (bs r.data) _ hr.t0 hr.t1 (by rw [bs_size]; exact hd)).mono ?_
      rw [lst_bs]
      rintro e w2 ⟨rfl, h2⟩
      cases hrt : rightL r.t r.data with
      | true =>
        have Hrt := Lib.hid hrt
        clear hrt
        go_wp2
        go_ret
        exact ⟨by unfold rchk; rw [if_neg (fun h => h Hc.out), if_neg hbig, if_pos Hrt.out]; rfl, HB.out.trans (h2.mono HB.out.size)⟩
      | false =>
        have Hrt := Lib.hid hrt
        clear hrt
        go_wp2
        go_ret
        exact ⟨by unfold rchk; rw [if_neg (fun h => h Hc.out), if_neg hbig, if_neg (by rw [Hrt.out]; simp)]; rfl, HB.out.trans (h2.mono HB.out.size)⟩
  · have hb : ((chk r.name : Int) != 0) = true := by rw [bne_iff_ne]; exact hc
    have Hc := Lib.hid hc
    clear hc
    go_wp2
    go_ret
    exact ⟨by unfold rchk; rw [if_pos Hc.out]; rfl, HB.out⟩
end Go.Proofs.Ytihfapnipifiiaa
