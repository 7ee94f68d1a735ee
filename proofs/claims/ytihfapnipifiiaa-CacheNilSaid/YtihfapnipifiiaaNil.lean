/- The walk of CacheNil. -/
import Derived.Test.YtihfapnipifiiaaAwake
import Derived.Handy
set_option linter.unusedVariables false
set_option linter.unusedSimpArgs false
namespace Go.Proofs.Ytihfapnipifiiaa
open Go Go.RowKit Go.Shelf

theorem flush_nil (n : ByteArray) (ep : Int) (w : World) :
    Calls Try.prog 27 #[.pointer none, .string n, .int .i64 ep] w fun e w' => e = .returned (.int .i64 0) ∧ w = w' := by
  go_enter Try.func27, Try.ntmps27
  go_wp2
  go_ret
  exact ⟨rfl, rfl⟩
theorem all_nil (w : World) :
    Calls Try.prog 43 #[.pointer none] w fun e w' => e = .returned (.slice none 0 0) ∧ w = w' := by
  go_enter Try.func43, Try.ntmps43
  go_wp2
  go_ret
  exact ⟨rfl, rfl⟩

def nA : Ent := entE 97 5 3 0
def nB : Ent := entE 98 5 3 0
theorem n_p1 : putB nA 0 [] = true := putB_true (cchk_one 97 (by decide) (by decide) (by decide) (by decide)) (by decide) (fun x hx => by cases hx)
theorem n_l1 : putR 0 0 nA [] = [nA] := putR_room n_p1 (fun x hx => by cases hx) (by decide)
theorem n_k : ∀ x ∈ [nA], x.key ≠ nB.key := fun x hx => by rw [List.mem_singleton.1 hx]; exact key_ne (by decide) _ _ _ _ _ _
theorem n_p2 : putB nB 0 [nA] = true := putB_true (cchk_one 98 (by decide) (by decide) (by decide) (by decide)) (by decide) (fun x hx e => absurd e (n_k x hx))
theorem n_l2 : putR 0 0 nB [nA] = [nB] := putR_full n_p2 n_k (by decide) (fun x hx => by rw [List.mem_singleton.1 hx]; decide) (by decide)
/-- A zero cache in a block of its own. -/
theorem zero_mine {w W : World} (h : W = w.alloc (.cells #[.int .i64 0, .map none, .slice none 0 0, .int .i64 0] 91)) : Mine w.heap.size w w.heap.size 0 0 [] W (Ca.new w.heap.size 0) := by
  subst h
  refine ⟨Ca.new_at (heap_alloc_new _ _), ?_, rfl, rfl, rfl, Int.le_refl _, Int.le_refl _, Nat.le_refl _, (Below.refl _ _).alloc (Nat.le_refl _) _, by simp⟩
  rintro k (e | e | e | e | ⟨x, hx, _⟩)
  · have e' : k = w.heap.size := e
    omega
  · cases e
  · cases e
  · cases e
  · cases hx

set_option maxRecDepth 100000 in
set_option maxHeartbeats 4000000 in
theorem nil_any (n : ByteArray) (w : World) (hn : n.size ≤ 140737488355200) :
    Calls Try.prog 12 #[.string n] w fun r w' => r = .returned (.bool true) ∧ Below w.heap.size w w' := by
  go_enter Try.func12, Try.ntmps12
  go_wp2_with fail
  have M0 := Lib.hid (zero_mine (w := w) rfl)
  refine (get_nil n 1 1 0 _ hn (by decide) (by decide) (by decide) (by decide)).mono ?_
  rintro r w1 ⟨rfl, hb⟩
  have M1 := Lib.hid (M0.out.step hb)
  clear hb M0
  dsimp only [Ent.val, zeroE]
  go_wp2_with fail
  refine (name_nil n 1 0 _ hn (by decide) (by decide)).mono ?_
  rintro r w2 ⟨rfl, hb⟩
  have M2 := Lib.hid (M1.out.step (bel_call (by go_grown) hb))
  clear hb M1
  dsimp only [Ent.val, zeroE]
  go_wp2_with fail
  refine (next_nil _).mono ?_
  rintro r w3 ⟨rfl, rfl⟩
  go_wp2_with fail
  refine (entry_any 97 97 5 _ rfl).mono ?_
  rintro r w4 ⟨rv, rfl, ho, hb⟩
  have Ho := Lib.hid ho
  have Hb : Hid (Below w2.heap.size w2 w4) := Lib.hid (bel_call (by go_grown) hb)
  clear ho hb
  go_wp2_with fail
  refine (put_mine M2.out nA rv 0 w4 _ rfl n_p1 Hb.out (entIn_one _ _ _ _) Ho.out (by simp) (by decide)).mono ?_
  rintro r w5 ⟨rfl, c5, hM, _⟩
  rw [n_l1] at hM
  have M5 := Lib.hid hM
  clear hM M2 Ho Hb
  go_wp2_with fail
  refine (entry_any 98 98 5 _ rfl).mono ?_
  rintro r w6 ⟨rv, rfl, ho, hb⟩
  have Ho := Lib.hid ho
  have Hb : Hid (Below w5.heap.size w5 w6) := Lib.hid (bel_call (by go_grown) hb)
  clear ho hb
  go_wp2_with fail
  refine (put_mine M5.out nB rv 0 w6 _ rfl n_p2 Hb.out (entIn_one _ _ _ _) Ho.out (by simp) (by decide)).mono ?_
  rintro r w7 ⟨rfl, c7, hM, _⟩
  rw [n_l2] at hM
  have M7 := Lib.hid hM
  clear hM M5 Ho Hb
  go_wp2_with fail
  refine (awake_any _).mono ?_
  rintro r w8 ⟨rfl, hb⟩
  have M8 := Lib.hid (M7.out.step hb)
  clear hb M7
  go_wp2_with fail
  refine (entry_any 97 97 5 _ rfl).mono ?_
  rintro r w9 ⟨rv, rfl, ho, hb⟩
  have M9 := Lib.hid (M8.out.step (bel_call (by go_grown) hb))
  clear ho hb M8
  go_wp2_with fail
  refine (put_nil nA rv 0 _).mono ?_
  rintro r w10 ⟨rfl, hb⟩
  have M10 := Lib.hid (M9.out.step hb)
  clear hb M9
  go_wp2_with fail
  refine (expire_nil 5 _).mono ?_
  rintro r w11 ⟨rfl, rfl⟩
  go_wp2_with fail
  refine (flush_nil n 5 _).mono ?_
  rintro r w12 ⟨rfl, rfl⟩
  go_wp2_with fail
  refine (len_nil _).mono ?_
  rintro r w13 ⟨rfl, rfl⟩
  go_wp2_with fail
  refine (all_nil _).mono ?_
  rintro r w14 ⟨rfl, rfl⟩
  go_wp2_with fail
  refine (len_mine M10.out _ (by go_grown)).mono ?_
  rintro r w15 ⟨rfl, rfl⟩
  dsimp only [List.length_cons, List.length_nil]
  go_wp2_with fail
  go_ret
  exact ⟨rfl, M10.out.below⟩
end Go.Proofs.Ytihfapnipifiiaa
