/- The walks of container/heap's up and down. -/
import Derived.Test.YtihfapnipifiiaaHeap1
namespace Go.Proofs.Ytihfapnipifiiaa
open Go Go.RowKit Go.Shelf

theorem find_less : (Try.t106.methods.find? (fun x => x.name == "Less")).map (fun m => (m.path, m.func)) = some (#[], some (158, false)) := by kernel_rfl
theorem find_swap : (Try.t106.methods.find? (fun x => x.name == "Swap")).map (fun m => (m.path, m.func)) = some (#[], some (159, false)) := by kernel_rfl
theorem find_len : (Try.t106.methods.find? (fun x => x.name == "Len")).map (fun m => (m.path, m.func)) = some (#[], some (157, false)) := by kernel_rfl
theorem find_push : (Try.t106.methods.find? (fun x => x.name == "Push")).map (fun m => (m.path, m.func)) = some (#[], some (161, true)) := by kernel_rfl
theorem find_pop : (Try.t106.methods.find? (fun x => x.name == "Pop")).map (fun m => (m.path, m.func)) = some (#[], some (160, true)) := by kernel_rfl

theorem wrapnil (ts : Array TypeId) (ty : TypeId) (a : Addr) (x y : String) : Builtin.ssaWrapNilChk_ ts ty #[.pointer (some a), strVal x, strVal y] = pure (.pointer (some a)) := rfl

set_option maxRecDepth 100000 in
theorem method_val {name : String} {f : Nat} (hf : (Try.t106.methods.find? (fun x => x.name == name)).map (fun m => (m.path, m.func)) = some (#[], some (f, false))) (sa : Addr) (A : Option Addr) (n cap : Nat) (w : World) (h : w.cell? sa = some (.slice A n cap)) :
    (method 319 106 (.pointer (some sa)) name).run Try.prog w = .ok (f, .slice A n cap) w := by
  unfold method
  cases hm : Try.t106.methods.find? (fun x => x.name == name) with
  | none => rw [hm] at hf; cases hf
  | some m =>
    rw [hm] at hf
    simp only [Option.map_some, Option.some.injEq, Prod.mk.injEq] at hf
    simp [go_sem, h, hm, hf.1, hf.2, follow, receiverAt, Place.get, wrapnil]

theorem ModS.cell {S : Nat → Prop} {w w' : World} (h : ModS S w w') {a : Addr} {v : Value} (ha : w.cell? a = some v) (hn : ¬ S a.block) : w'.cell? a = some v :=
  (World.cell?_of_block (h.block _ (blk_of_cell ha) hn)).trans ha
theorem ModS.frozen {S : Nat → Prop} {w w' : World} (h : ModS S w w') {a : Addr} (ha : a.block < w.heap.size) (hn : ¬ S a.block) : w'.frozen? a = w.frozen? a :=
  World.frozen?_of_block (h.block _ ha hn)

/-- What 'up' makes of a row. -/
def upL (its : List It) (j : Nat) : List It :=
  if j = 0 then its
  else if untilAt its j < untilAt its ((j - 1) / 2) then upL (swapL its ((j - 1) / 2) j) ((j - 1) / 2)
  else its
termination_by j
decreasing_by omega
theorem upL_zero (its : List It) : upL its 0 = its := by rw [upL, if_pos rfl]
theorem upL_stop {its : List It} {j : Nat} (h : ¬ untilAt its j < untilAt its ((j - 1) / 2)) : upL its j = its := by
  rw [upL]; split
  · rfl
  · rfl
theorem upL_go {its : List It} {j : Nat} (h0 : j ≠ 0) (h : untilAt its j < untilAt its ((j - 1) / 2)) : upL its j = upL (swapL its ((j - 1) / 2) j) ((j - 1) / 2) := by
  rw [upL, if_neg h0, if_pos h]

def heapS (g : Nat) (its : List It) (k : Nat) : Prop := k = g ∨ k ∈ its.map It.blk
theorem heapS_perm {g : Nat} {a b : List It} (h : a.Perm b) (k : Nat) : heapS g a k → heapS g b k := fun hk => hk.imp id (fun hm => (h.map It.blk).mem_iff.1 hm)

set_option maxRecDepth 100000 in
set_option maxHeartbeats 1000000 in
theorem hup_any (g cap j : Nat) (sa : Addr) (its : List It) (w : World) (h : HeapRow w g cap its) (hj : j < its.length) (hs : w.cell? sa = some (.slice (some ⟨g, 0, none⟩) its.length cap)) (hsa : ¬ heapS g its sa.block) :
    Calls Try.prog 95 #[.iface 106 (.pointer (some sa)), .int .i64 j] w fun e w' => e = .returned (.tuple #[]) ∧ HeapRow w' g cap (upL its j) ∧ ModS (heapS g its) w w' := by
  have hmost : its.length ≤ 9223372036854775807 := by have := h.le; have h2 := h.most; unfold maxLen at h2; omega
  go_enter Try.func95, Try.ntmps95
  go_wp2
  go_loopw [1] (fun j_ wr => ∃ (k : Nat) (xs : List It), j_ = .int .i64 k ∧ upL its j = upL xs k ∧ HeapRow wr g cap xs ∧ k < its.length ∧ xs.Perm its ∧ ModS (heapS g its) w wr) (fun j_ _ => (intOf j_).toNat)
  case atStart => exact ⟨j, its, rfl, rfl, h, hj, List.Perm.refl _, ModS.refl _ _⟩
  case round =>
    obtain ⟨k, xs, rfl, hu, hr, hk, hp, hm⟩ := hrel
    have hlen := hp.length_eq
    have hc := hm.cell hs hsa
    have Hu := Lib.hid hu
    have Hlen := Lib.hid hlen
    have HR := Lib.hid hr
    clear hu h hr hlen hs
    by_cases hk0 : k = 0
    · subst hk0
      go_wp2
      go_end0
      rw [Hu.out, upL_zero]
      exact ⟨rfl, HR.out, hm⟩
    · have hk1 : 1 ≤ k := by omega
      have hb : (((k : Int) - 1) / 2 == (k : Int)) = false := by rw [beq_eq_false_iff_ne]; omega
      obtain ⟨i, hi⟩ : ∃ i : Nat, i = (k - 1) / 2 := ⟨_, rfl⟩
      have hii : ((k : Int) - 1) / 2 = i := by omega
      have hik : i < k := by omega
      have Hi := Lib.hid hi
      have ml := method_val find_less sa _ _ _ wr hc
      clear hi
      go_wp2_with fail
      rw [← Hlen.out]
      refine (hless_any g cap k i xs wr HR.out (by have := Hlen.out; omega) (by have := Hlen.out; omega)).mono ?_
      rintro e w1 ⟨rfl, nq, rfl⟩
      by_cases hlt : untilAt xs k < untilAt xs i
      · have hd : decide (untilAt xs k < untilAt xs i) = true := decide_eq_true hlt
        have Hlt := Lib.hid hlt
        clear hlt
        have hc1 : (wr.drewN nq).cell? sa = some (.slice (some ⟨g, 0, none⟩) its.length cap) := hc
        have ms := method_val find_swap sa _ _ _ (wr.drewN nq) hc1
        go_wp2_with fail
        rw [← Hlen.out]
        refine (hswap_any g cap i k xs _ (HR.out.drewN nq) (by have := Hlen.out; omega) (by have := Hlen.out; omega) (by omega)).mono ?_
        rintro e w2 ⟨rfl, h2, hm2⟩
        go_wp2
        go_roundw
        case rel =>
          refine ⟨i, _, rfl, ?_, h2, by omega, (swapL_perm _ _ _).trans hp, (hm.drewN nq).trans (hm2.mono (fun z hz => heapS_perm hp z hz))⟩
          rw [Hu.out, upL_go hk0 (by rw [← Hi.out]; exact Hlt.out), ← Hi.out]
        case measure => simp [intOf]; omega
      · have hd : decide (untilAt xs k < untilAt xs i) = false := decide_eq_false hlt
        have Hlt := Lib.hid hlt
        clear hlt
        go_wp2
        go_end0
        rw [Hu.out, upL_stop (by rw [← Hi.out]; have := Hlt.out; omega)]
        exact ⟨rfl, HR.out.drewN nq, hm.drewN nq⟩
end Go.Proofs.Ytihfapnipifiiaa
