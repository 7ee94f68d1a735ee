/- The walks of fingerpostref16: key, Key. -/
import Derived.Test.YtihfapnipifiiaaPut
import Derived.Handy
set_option linter.unusedVariables false
set_option linter.unusedSimpArgs false
namespace Go.Proofs.Ytihfapnipifiiaa
open Go Go.RowKit Go.Shelf

theorem key_str2 (p : UInt8) (n : List UInt8) (t c : Int) (t0 : 0 ≤ t) (c0 : 0 ≤ c) :
    Ending.returned (.string (strOfNums [(p.toNat : Int)] ++ bs (low n) ++ strOfNums [t / 256, t % 256, c / 256, c % 256])) = .returned (.string (bs (keyL p n t c))) := key_str p n t c t0 c0

set_option maxRecDepth 100000 in
set_option maxHeartbeats 4000000 in
theorem rkey0_any (nb : Bool) (n : ByteArray) (t c : Int) (w : World) (hs : n.size ≤ 1099511627776) (t0 : 0 ≤ t) (t1 : t ≤ 65535) (c0 : 0 ≤ c) (c1 : c ≤ 65535) :
    Calls Try.prog 46 #[.bool nb, .string n, .int .u16 t, .int .u16 c] w fun e w' => e = .returned (.string (bs (keyL (if nb = true then 1 else 0) (lst n) (if nb = true then 0 else t) c))) ∧ Below w.heap.size w w' := by
  obtain ⟨p, hp⟩ : ∃ p : UInt8, p = if nb = true then 1 else 0 := ⟨_, rfl⟩
  obtain ⟨u, hu⟩ : ∃ u : Int, u = if nb = true then 0 else t := ⟨_, rfl⟩
  have u0 : 0 ≤ u := by rw [hu]; split <;> omega
  have u1 : u ≤ 65535 := by rw [hu]; split <;> omega
  rw [← hp, ← hu]
  have Hp := Lib.hid hp
  have Hu := Lib.hid hu
  clear hp hu
  go_enter Try.func46, Try.ntmps46
  go_upto_if 10 with fail
  go_cut [9, 2] (fun a b wx => w = wx ∧ a = .int .u8 p.toNat ∧ b = .int .u16 u)
  case first =>
    cases nb with
    | true =>
      go_wp2_with fail
      go_meet
      exact ⟨rfl, by rw [Hp.out]; rfl, by rw [Hu.out]; rfl⟩
    | false =>
      go_wp2_with fail
      go_meet
      exact ⟨rfl, by rw [Hp.out]; rfl, by rw [Hu.out]; rfl⟩
  case rest =>
    obtain ⟨rfl, rfl, rfl⟩ := hcut
    have hp1 : (strOfNums [(p.toNat : Int)]).size = 1 := strOfNums_size _
    have hp2 : (bs (low (lst n))).size = n.size := by rw [bs_size, low_length, lst_length]
    have hp3 : (strOfNums [u / 256, u % 256, c / 256, c % 256]).size = 4 := strOfNums_size _
    have ha1 := run_cat (strOfNums [(p.toNat : Int)]) (bs (low (lst n))) (by omega)
    have ha2 := run_cat (strOfNums [(p.toNat : Int)] ++ bs (low (lst n))) (strOfNums [u / 256, u % 256, c / 256, c % 256]) (by rw [ByteArray.size_append]; omega)
    have hw1 : IntKind.u8.wrap (u / 256) = u / 256 := IntWalk.u8_in _ (by omega)
    have hw2 : IntKind.u8.wrap u = u % 256 := by rw [IntKind.wrap_u8]
    have hw3 : IntKind.u8.wrap (c / 256) = c / 256 := IntWalk.u8_in _ (by omega)
    have hw4 : IntKind.u8.wrap c = c % 256 := by rw [IntKind.wrap_u8]
    have hc1 := conv1
    have hc4 := conv4
    have q1 : w.heap.size < w.heap.size + 1 + 1 := by omega
    have q2 : w.heap.size < w.heap.size + 2 := by omega
    have q3 : w.heap.size + 1 < w.heap.size + 2 := by omega
    clear hp1 hp2 hp3
    go_upto_region 5 with fail
    go_region_with (first | (go_at_call 24; refine (rlower_any n _ ?_).mono ?_; omega; rintro e w' ⟨rfl, hb'⟩; have hcl := (bcell hb').1; have hz' := hb'.size; (try simp at hz'); (try have hz2 : w.heap.size < w'.heap.size := by omega); (try have hz3 : w.heap.size + 1 < w'.heap.size := by omega)))
    all_goals go_wp2
    all_goals go_ret
    all_goals (refine ⟨?_, ?_⟩)
    all_goals first
      | exact key_str2 p (lst n) u c u0 c0
      | (repeat (first | assumption | exact Below.refl _ _ | refine Below.drew ?_ | refine bel_alloc ?_ _ | refine bel_call ?_ hb'))

set_option maxRecDepth 100000 in
theorem rkey_any (e : Ent) (rv : Value) (w : World) (he : EntIn e) :
    Calls Try.prog 15 #[e.val rv] w fun r w' => r = .returned (.string (bs e.key)) ∧ Below w.heap.size w w' := by
  have hk : bs e.key = bs (keyL (if (e.kind == 3) = true then 1 else 0) (lst (bs e.name)) (if (e.kind == 3) = true then 0 else e.t) e.c) := by
    unfold Ent.key
    rw [lst_bs]
    by_cases h : e.kind = 3
    · have h' : (e.kind == 3) = true := beq_iff_eq.2 h
      rw [if_pos h, if_pos h', if_pos h']
    · have h' : ¬ (e.kind == 3) = true := fun q => h (beq_iff_eq.1 q)
      rw [if_neg h, if_neg h', if_neg h']
  rw [hk]
  have t0 := he.t0
  have t1 := he.t1
  have c0 := he.c0
  have c1 := he.c1
  have hn : (bs e.name).size ≤ 1099511627776 := by rw [bs_size]; have := he.name; omega
  obtain ⟨nb, hnb⟩ : ∃ nb, nb = (e.kind == 3) := ⟨_, rfl⟩
  rw [← hnb]
  have hc := fun W => rkey0_any nb (bs e.name) e.t e.c W hn t0 t1 c0 c1
  obtain ⟨R, hR⟩ : ∃ R, R = bs (keyL (if nb = true then 1 else 0) (lst (bs e.name)) (if nb = true then 0 else e.t) e.c) := ⟨_, rfl⟩
  rw [← hR]
  simp only [← hR] at hc
  have hb0 : Below w.heap.size w (w.alloc (.cells #[.int .i64 e.kind, .string (bs e.name), .int .u16 e.t, .int .u16 e.c, rv, .int .i64 e.til, .int .i64 e.rank, .int .i64 e.epoch, .int .i64 e.source] 25)) := (Below.refl _ w).alloc (Nat.le_refl _) _
  have Hb0 := Lib.hid hb0
  have Hnb := Lib.hid hnb
  have Hc := Lib.hid hc
  clear hb0 hnb hk he hc hR
  unfold Ent.val
  go_enter Try.func15, Try.ntmps15
  go_wp2_with fail
  rw [← Hnb.out]
  refine (Hc.out _).mono ?_
  rintro r w1 ⟨rfl, h1⟩
  have Hb1 := Lib.hid (bel_call Hb0.out h1)
  clear h1
  go_wp2
  go_ret
  exact ⟨rfl, Hb1.out⟩

end Go.Proofs.Ytihfapnipifiiaa
