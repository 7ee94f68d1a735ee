/- The walk of container/heap's down. -/
import Derived.Test.YtihfapnipifiiaaHeap2
namespace Go.Proofs.Ytihfapnipifiiaa
open Go Go.RowKit Go.Shelf

/-- The lesser child. -/
def childL (its : List It) (i n : Nat) : Nat := if 2 * i + 2 < n ∧ untilAt its (2 * i + 2) < untilAt its (2 * i + 1) then 2 * i + 2 else 2 * i + 1
theorem childL_gt (its : List It) (i n : Nat) : i < childL its i n ∧ childL its i n ≤ 2 * i + 2 := by unfold childL; split <;> omega
/-- What 'down' makes of a row, and where it ends. -/
def downL (its : List It) (i n : Nat) : List It × Nat :=
  if n ≤ 2 * i + 1 then (its, i)
  else if untilAt its (childL its i n) < untilAt its i then downL (swapL its i (childL its i n)) (childL its i n) n
  else (its, i)
termination_by n - i
decreasing_by have := childL_gt its i n; omega
theorem downL_end {its : List It} {i n : Nat} (h : n ≤ 2 * i + 1) : downL its i n = (its, i) := by rw [downL, if_pos h]
theorem downL_stop {its : List It} {i n : Nat} (h : ¬ untilAt its (childL its i n) < untilAt its i) : downL its i n = (its, i) := by
  rw [downL]; split
  · rfl
  · rfl
theorem downL_go {its : List It} {i n : Nat} (h0 : ¬ n ≤ 2 * i + 1) (h : untilAt its (childL its i n) < untilAt its i) : downL its i n = downL (swapL its i (childL its i n)) (childL its i n) n := by
  rw [downL, if_neg h0, if_pos h]

set_option maxRecDepth 100000 in
set_option maxHeartbeats 2000000 in
theorem hdown_any (g cap i0 n : Nat) (sa : Addr) (its : List It) (w : World) (h : HeapRow w g cap its) (hn : n ≤ its.length) (hi0 : i0 < its.length) (hb20 : its.length ≤ 1099511627776) (hs : w.cell? sa = some (.slice (some ⟨g, 0, none⟩) its.length cap)) (hsa : ¬ heapS g its sa.block) :
    Calls Try.prog 114 #[.iface 106 (.pointer (some sa)), .int .i64 i0, .int .i64 n] w fun e w' => e = .returned (.bool (decide (i0 < (downL its i0 n).2))) ∧ HeapRow w' g cap (downL its i0 n).1 ∧ ModS (heapS g its) w w' := by
  go_enter Try.func114, Try.ntmps114
  go_wp2
  go_loopw [7] (fun i_ wr => ∃ (k : Nat) (xs : List It), i_ = .int .i64 k ∧ downL its i0 n = downL xs k n ∧ HeapRow wr g cap xs ∧ k < its.length ∧ xs.Perm its ∧ ModS (heapS g its) w wr) (fun i_ _ => its.length - (intOf i_).toNat)
  case atStart => exact ⟨i0, its, rfl, rfl, h, hi0, List.Perm.refl _, ModS.refl _ _⟩
  case round =>
    obtain ⟨k, xs, rfl, hu, hr, hk, hp, hm⟩ := hrel
    have hlen := hp.length_eq
    have hc := hm.cell hs hsa
    have Hu := Lib.hid hu
    have Hlen := Lib.hid hlen
    have HR := Lib.hid hr
    clear hu h hr hlen hs
    have fin : ∀ (wr' : World), HeapRow wr' g cap xs → ModS (heapS g its) w wr' → downL xs k n = (xs, k) →
        Ending.returned (.bool (decide (i0 < k))) = .returned (.bool (decide (i0 < (downL its i0 n).2))) ∧ HeapRow wr' g cap (downL its i0 n).1 ∧ ModS (heapS g its) w wr' := by
      intro wr' h1 h2 e
      rw [Hu.out, e]
      exact ⟨rfl, h1, h2⟩
    have Fin := Lib.hid fin
    clear fin
    by_cases hend : n ≤ 2 * k + 1
    · go_wp2
      go_ret
      exact Fin.out wr HR.out hm (downL_end hend)
    · have hlt1 : 2 * k + 1 < n := by omega
      have hkx : k < xs.length := by have := Hlen.out; omega
      have h1x : 2 * k + 1 < xs.length := by have := Hlen.out; omega
      obtain ⟨j1, hj1⟩ : ∃ j1 : Nat, j1 = 2 * k + 1 := ⟨_, rfl⟩
      obtain ⟨j2, hj2⟩ : ∃ j2 : Nat, j2 = j1 + 1 := ⟨_, rfl⟩
      have ej1 : (2 : Int) * k + 1 = (j1 : Int) := by omega
      have ej2 : (j1 : Int) + 1 = (j2 : Int) := by omega
      have l1 : j1 < n := by omega
      have l2 : k < j1 := by omega
      have l3 : j1 < its.length := by omega
      have l4 : j2 ≤ its.length := by omega
      have l5 : k < j2 := by omega
      have hch : childL xs k n = if j2 < n ∧ untilAt xs j2 < untilAt xs j1 then j2 else j1 := by unfold childL; rw [hj2, hj1]
      clear hj1 hj2 h1x hlt1
      by_cases h2 : j2 < n
      · have m1 := method_val find_less sa _ _ _ wr hc
        go_wp2_with fail
        rw [← Hlen.out]
        refine (hless_any g cap j2 j1 xs wr HR.out (by have := Hlen.out; omega) (by have := Hlen.out; omega)).mono ?_
        rintro e w1 ⟨rfl, nq, hw1⟩
        have HR1 : Hid (HeapRow w1 g cap xs) := Lib.hid (by rw [hw1]; exact HR.out.drewN nq)
        have hm1 : ModS (heapS g its) w w1 := by rw [hw1]; exact hm.drewN nq
        have hc1 : w1.cell? sa = some (.slice (some ⟨g, 0, none⟩) its.length cap) := by rw [hw1]; exact hc
        clear hw1
        by_cases hl1 : untilAt xs j2 < untilAt xs j1
        · have hd1 : decide (untilAt xs j2 < untilAt xs j1) = true := decide_eq_true hl1
          have Hch := Lib.hid (hch.trans (if_pos ⟨h2, hl1⟩))
          clear hch hl1 m1
          have mk := method_val find_less sa _ _ _ w1 hc1
          go_wp2_with fail
          rw [← Hlen.out]
          refine (hless_any g cap j2 k xs w1 HR1.out (by have := Hlen.out; omega) hkx).mono ?_
          rintro e w2 ⟨rfl, nq2, hw2⟩
          have HR2 : Hid (HeapRow w2 g cap xs) := Lib.hid (by rw [hw2]; exact HeapRow.drewN HR1.out nq2)
          have hm2 : ModS (heapS g its) w w2 := by rw [hw2]; exact ModS.drewN hm1 nq2
          have hc2 : w2.cell? sa = some (.slice (some ⟨g, 0, none⟩) its.length cap) := by rw [hw2]; exact hc1
          clear hw2
          by_cases hl2 : untilAt xs j2 < untilAt xs k
          · have hd2 : decide (untilAt xs j2 < untilAt xs k) = true := decide_eq_true hl2
            have Hl2 := Lib.hid hl2
            clear hl2
            have ms := method_val find_swap sa _ _ _ w2 hc2
            go_wp2_with fail
            rw [← Hlen.out]
            refine (hswap_any g cap k j2 xs _ HR2.out hkx (by have := Hlen.out; omega) (by omega)).mono ?_
            rintro e w3 ⟨rfl, h3, hm3⟩
            go_wp2
            go_roundw
            case rel =>
              refine ⟨j2, _, rfl, ?_, h3, by omega, (swapL_perm _ _ _).trans hp, hm2.trans (hm3.mono (fun z hz => heapS_perm hp z hz))⟩
              rw [Hu.out, downL_go hend (by rw [Hch.out]; exact Hl2.out), Hch.out]
            case measure => simp [intOf]; omega
          · have hd2 : decide (untilAt xs j2 < untilAt xs k) = false := decide_eq_false hl2
            have Hl2 := Lib.hid hl2
            clear hl2
            go_wp2
            go_ret
            exact Fin.out _ HR2.out hm2 (downL_stop (by rw [Hch.out]; have := Hl2.out; omega))
        · have hd1 : decide (untilAt xs j2 < untilAt xs j1) = false := decide_eq_false hl1
          have Hch := Lib.hid (hch.trans (if_neg (fun h => hl1 h.2)))
          clear hch hl1 m1
          have mk := method_val find_less sa _ _ _ w1 hc1
          go_wp2_with fail
          rw [← Hlen.out]
          refine (hless_any g cap j1 k xs w1 HR1.out (by have := Hlen.out; omega) hkx).mono ?_
          rintro e w2 ⟨rfl, nq2, hw2⟩
          have HR2 : Hid (HeapRow w2 g cap xs) := Lib.hid (by rw [hw2]; exact HeapRow.drewN HR1.out nq2)
          have hm2 : ModS (heapS g its) w w2 := by rw [hw2]; exact ModS.drewN hm1 nq2
          have hc2 : w2.cell? sa = some (.slice (some ⟨g, 0, none⟩) its.length cap) := by rw [hw2]; exact hc1
          clear hw2
          by_cases hl2 : untilAt xs j1 < untilAt xs k
          · have hd2 : decide (untilAt xs j1 < untilAt xs k) = true := decide_eq_true hl2
            have Hl2 := Lib.hid hl2
            clear hl2
            have ms := method_val find_swap sa _ _ _ w2 hc2
            go_wp2_with fail
            rw [← Hlen.out]
            refine (hswap_any g cap k j1 xs _ HR2.out hkx (by have := Hlen.out; omega) (by omega)).mono ?_
            rintro e w3 ⟨rfl, h3, hm3⟩
            go_wp2
            go_roundw
            case rel =>
              refine ⟨j1, _, rfl, ?_, h3, by omega, (swapL_perm _ _ _).trans hp, hm2.trans (hm3.mono (fun z hz => heapS_perm hp z hz))⟩
              rw [Hu.out, downL_go hend (by rw [Hch.out]; exact Hl2.out), Hch.out]
            case measure => simp [intOf]; omega
          · have hd2 : decide (untilAt xs j1 < untilAt xs k) = false := decide_eq_false hl2
            have Hl2 := Lib.hid hl2
            clear hl2
            go_wp2
            go_ret
            exact Fin.out _ HR2.out hm2 (downL_stop (by rw [Hch.out]; have := Hl2.out; omega))
      · have Hch := Lib.hid (hch.trans (if_neg (fun h => h2 h.1)))
        clear hch
        have mk := method_val find_less sa _ _ _ wr hc
        go_wp2_with fail
        rw [← Hlen.out]
        refine (hless_any g cap j1 k xs wr HR.out (by have := Hlen.out; omega) hkx).mono ?_
        rintro e w2 ⟨rfl, nq2, hw2⟩
        have HR2 : Hid (HeapRow w2 g cap xs) := Lib.hid (by rw [hw2]; exact HeapRow.drewN HR.out nq2)
        have hm2 : ModS (heapS g its) w w2 := by rw [hw2]; exact ModS.drewN hm nq2
        have hc2 : w2.cell? sa = some (.slice (some ⟨g, 0, none⟩) its.length cap) := by rw [hw2]; exact hc
        clear hw2
        by_cases hl2 : untilAt xs j1 < untilAt xs k
        · have hd2 : decide (untilAt xs j1 < untilAt xs k) = true := decide_eq_true hl2
          have Hl2 := Lib.hid hl2
          clear hl2
          have ms := method_val find_swap sa _ _ _ w2 hc2
          go_wp2_with fail
          rw [← Hlen.out]
          refine (hswap_any g cap k j1 xs _ HR2.out hkx (by have := Hlen.out; omega) (by omega)).mono ?_
          rintro e w3 ⟨rfl, h3, hm3⟩
          go_wp2
          go_roundw
          case rel =>
            refine ⟨j1, _, rfl, ?_, h3, by omega, (swapL_perm _ _ _).trans hp, hm2.trans (hm3.mono (fun z hz => heapS_perm hp z hz))⟩
            rw [Hu.out, downL_go hend (by rw [Hch.out]; exact Hl2.out), Hch.out]
          case measure => simp [intOf]; omega
        · have hd2 : decide (untilAt xs j1 < untilAt xs k) = false := decide_eq_false hl2
          have Hl2 := Lib.hid hl2
          clear hl2
          go_wp2
          go_ret
          exact Fin.out _ HR2.out hm2 (downL_stop (by rw [Hch.out]; have := Hl2.out; omega))
end Go.Proofs.Ytihfapnipifiiaa
