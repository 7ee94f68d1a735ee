/- The walk of the statements' own 'entry'. The walk of the statements' own 'awake'. -/
import Derived.Test.YtihfapnipifiiaaMach
import Derived.Handy
set_option linter.unusedVariables false
set_option linter.unusedSimpArgs false
/- The walk of the statements' own 'entry'. -/
namespace Go.Proofs.Ytihfapnipifiiaa
open Go Go.RowKit Go.Shelf

set_option maxRecDepth 100000 in
theorem entry_any (b : UInt8) (n til : Int) (w : World) (hn : n = b.toNat) :
    Calls Try.prog 21 #[.int .u8 n, .int .i64 til] w fun r w' => ∃ rv, r = .returned ((entE b til 3 0).val rv) ∧ RecsOwn w' w.heap.size rv (entE b til 3 0).recs ∧ Below w.heap.size w w' := by
  have hX : (⟨#[1]⟩ : ByteArray) ++ strOfNums [(b.toNat : Int)] ++ (⟨#[0]⟩ : ByteArray) = bs [1, b, 0] := by
    apply lst_inj
    rw [lst_bs]
    unfold lst
    simp [strOfNums, ByteArray.data_append]
  have hz : (strOfNums [(b.toNat : Int)]).size = 1 := strOfNums_size _
  have hc1 := conv1
  have q1 : w.heap.size < w.heap.size + 1 := by omega
  have HX := Lib.hid hX
  clear hX
  go_enter Try.func21, Try.ntmps21
  go_wp2_with fail
  rw [HX.out]
  refine bodyPost_ret (v := .agg #[.int .i64 1, .string (bs [1, b, 0]), .int .u16 1, .int .u16 1, .slice (some ⟨w.heap.size + 2, 0, none⟩) 1 1, .int .i64 til, .int .i64 3, .int .i64 0, .int .i64 0]) (by simp [results, Try.results21, go_sem]) rfl ⟨_, rfl, ?_, (((Below.refl _ w).alloc (Nat.le_refl _) _).alloc (by simp) _).alloc (by simp; omega) _⟩
  refine ⟨rfl, .inr ⟨w.heap.size + 2, 1, #[.string (bs [1, b, 0]), .int .u16 1, .int .u16 1, .int .u32 0, .string (bs [1, 2, 3, 4])], rfl, by omega, ?_, Nat.le_refl _, by unfold maxLen; omega, rfl, rfl⟩⟩
  have := heap_alloc_new ((w.alloc (.cells #[.int .i64 1, .string (bs [1, b, 0]), .int .u16 1, .int .u16 1, .slice (some ⟨w.heap.size + 2, 0, none⟩) 1 1, .int .i64 til, .int .i64 3, .int .i64 0, .int .i64 0] 25)).alloc (.cells #[.int .u8 b.toNat] 5)) (.cells #[.string (bs [1, b, 0]), .int .u16 1, .int .u16 1, .int .u32 0, .string (bs [1, 2, 3, 4])] 56)
  rw [World.size_alloc, World.size_alloc] at this
  exact this
end Go.Proofs.Ytihfapnipifiiaa
/- The walk of the statements' own 'awake'. -/
namespace Go.Proofs.Ytihfapnipifiiaa
open Go Go.RowKit Go.Shelf

def eA : Ent := entE 97 100 3 0
def eB : Ent := entE 98 100 3 0
def eC : Ent := entE 99 100 3 0
def eD : Ent := entE 98 100 2 0
theorem ck (b : UInt8) (r : Int) (h : 1 ≤ r) (h' : r ≤ 4) : cchk (entE b 100 r 0) = 0 := cchk_one b (by decide) (by decide) h h'
theorem p1 : putB eA 0 [] = true := putB_true (ck 97 3 (by decide) (by decide)) (by decide) (fun x hx => by cases hx)
theorem l1 : putR 2 0 eA [] = [eA] := putR_room p1 (fun x hx => by cases hx) (by decide)
theorem g1 : getE (keyL 0 [1, 97, 0] 1 1) 100 [eA] = some eA := getE_at (s := []) (fun x hx => by cases hx) (key_one' 97 100 3 0) (by decide)
theorem l2 : getL (keyL 0 [1, 97, 0] 1 1) 100 [eA] = [eA] := getL_at (s := []) (fun x hx => by cases hx) (key_one' 97 100 3 0) (by decide) (fun x hx => by cases hx)
theorem g2 : getE (keyL 0 [1, 97, 0] 1 1) 101 [eA] = none := getE_nil (fun x hx => .inr (by rw [List.mem_singleton.1 hx]; decide))
theorem kBA : ∀ x ∈ [eA], x.key ≠ eB.key := fun x hx => by rw [List.mem_singleton.1 hx]; exact key_ne (by decide) _ _ _ _ _ _
theorem p2 : putB eB 0 [eA] = true := putB_true (ck 98 3 (by decide) (by decide)) (by decide) (fun x hx e => absurd e (kBA x hx))
theorem l3 : putR 2 0 eB [eA] = [eA, eB] := putR_room p2 kBA (by decide)
theorem kC : ∀ x ∈ [eA, eB], x.key ≠ eC.key := fun x hx => by
  rcases List.mem_cons.1 hx with rfl | hx
  · exact key_ne (by decide) _ _ _ _ _ _
  · rw [List.mem_singleton.1 hx]; exact key_ne (by decide) _ _ _ _ _ _
theorem p3 : putB eC 0 [eA, eB] = true := putB_true (ck 99 3 (by decide) (by decide)) (by decide) (fun x hx e => absurd e (kC x hx))
theorem l4 : putR 2 0 eC [eA, eB] = [eB, eC] := putR_full p3 kC (by decide) (fun x hx => by
  rcases List.mem_cons.1 hx with rfl | hx
  · decide
  · rw [List.mem_singleton.1 hx]; decide) (by decide)
theorem g3 : getE (keyL 0 [1, 97, 0] 1 1) 50 [eB, eC] = none := getE_nil (fun x hx => .inl (by
  rcases List.mem_cons.1 hx with rfl | hx
  · exact key_ne' (by decide) _ _ _
  · rw [List.mem_singleton.1 hx]; exact key_ne' (by decide) _ _ _))
theorem p4 : putB eD 0 [eB, eC] = false := putB_false (x := eB) (List.mem_cons_self) (by rw [eB, eD, key_one', key_one']) (by decide) (by decide)
theorem l5 : putR 2 0 eD [eB, eC] = [eB, eC] := putR_no p4

theorem tmod_bounds (a : Int) (k : Nat) (hk : 0 < k) : -(k : Int) < a.tmod k ∧ a.tmod k < k := by
  have h1 := Int.tmod_lt_of_pos a (show (0 : Int) < k by omega)
  have h2 := Int.lt_tmod_of_pos a (show (0 : Int) < k by omega)
  omega
set_option maxRecDepth 100000 in
set_option maxHeartbeats 1000000 in
theorem awake_any (w : World) : Calls Try.prog 13 #[] w fun r w' => r = .returned (.bool true) ∧ Below w.heap.size w w' := by
  go_enter Try.func13, Try.ntmps13
  go_wp2_with fail
  refine (new_mine 2 _ (Below.refl _ w)).mono ?_
  rintro r w1 ⟨rfl, hb, hM⟩
  rw [show capOf 2 = 2 from by decide] at hM
  have M1 := Lib.hid hM
  clear hM hb
  go_wp2_with fail
  refine (entry_any 97 97 100 _ rfl).mono ?_
  rintro r w2 ⟨rv, rfl, ho, hb⟩
  have h2 := Lib.hid (M1.out.step hb)
  have Ho := Lib.hid ho
  have Hb := Lib.hid hb
  clear ho hb
  go_wp2_with fail
  refine (put_mine M1.out eA rv 0 w2 _ rfl p1 Hb.out (entIn_one _ _ _ _) Ho.out (Nat.le_refl _) (by decide)).mono ?_
  rintro r w3 ⟨rfl, c3, hM, _⟩
  rw [l1] at hM
  have M3 := Lib.hid hM
  clear hM h2 M1 Ho Hb
  go_wp2_with fail
  refine (get_some M3.out _ 1 1 100 _ lstA g1 (by go_grown) (by decide) (by decide) (by decide) (by decide) (by decide) (by decide)).mono ?_
  rintro r w4 ⟨c4, rv, hM, _, rfl, ho⟩
  rw [l2] at hM
  obtain ⟨A, cap, rfl⟩ := ho.shape
  have M4 := Lib.hid hM
  clear hM ho M3
  dsimp only [Ent.val, eA, entE]
  go_wp2_with fail
  refine (get_none M4.out _ 1 1 101 _ lsta g2 (by go_grown) (by decide) (by decide) (by decide) (by decide) (by decide) (by decide)).mono ?_
  rintro r w5 ⟨c5, rv, hM, _, rfl, ho⟩
  obtain ⟨A, cap, rfl⟩ := ho.shape
  have M5 := Lib.hid hM
  clear hM ho M4
  dsimp only [Ent.val, zeroE, entE]
  go_wp2_with fail
  refine (entry_any 98 98 100 _ rfl).mono ?_
  rintro r w6 ⟨rv, rfl, ho, hb⟩
  have Ho := Lib.hid ho
  have Hb : Hid (Below w5.heap.size w5 w6) := Lib.hid (bel_call (by go_grown) hb)
  clear ho hb
  go_wp2_with fail
  refine (put_mine M5.out eB rv 0 w6 _ rfl p2 Hb.out (entIn_one _ _ _ _) Ho.out (by simp) (by decide)).mono ?_
  rintro r w7 ⟨rfl, c7, hM, _⟩
  rw [l3] at hM
  have M7 := Lib.hid hM
  clear hM M5 Ho Hb
  go_wp2_with fail
  refine (entry_any 99 99 100 _ rfl).mono ?_
  rintro r w8 ⟨rv, rfl, ho, hb⟩
  have Ho := Lib.hid ho
  have Hb : Hid (Below w7.heap.size w7 w8) := Lib.hid (bel_call (by go_grown) hb)
  clear ho hb
  go_wp2_with fail
  refine (put_mine M7.out eC rv 0 w8 _ rfl p3 Hb.out (entIn_one _ _ _ _) Ho.out (by simp) (by decide)).mono ?_
  rintro r w9 ⟨rfl, c9, hM, _⟩
  rw [l4] at hM
  have M9 := Lib.hid hM
  clear hM M7 Ho Hb
  go_wp2_with fail
  refine (get_none M9.out _ 1 1 50 _ lsta g3 (by go_grown) (by decide) (by decide) (by decide) (by decide) (by decide) (by decide)).mono ?_
  rintro r w10 ⟨c10, rv, hM, _, rfl, ho⟩
  obtain ⟨A, cap, rfl⟩ := ho.shape
  have M10 := Lib.hid hM
  clear hM ho M9
  dsimp only [Ent.val, zeroE]
  go_wp2_with fail
  refine (entry_any 98 98 100 _ rfl).mono ?_
  rintro r w11 ⟨rv, rfl, ho, hb⟩
  obtain ⟨A1, cap1, rfl⟩ := ho.shape
  have Ho := Lib.hid ho
  have Hb : Hid (Below w10.heap.size w10 w11) := Lib.hid (bel_call (by go_grown) hb)
  clear ho hb
  dsimp only [Ent.val, entE]
  go_wp2_with fail
  refine (put_mine M10.out eD (.slice A1 1 cap1) 0 _ _ rfl p4 (bel_call Hb.out (by go_grown)) (entIn_one _ _ _ _) (Ho.out.below (by go_grown)) (by simp) (by decide)).mono ?_
  rintro r w12 ⟨rfl, c12, hM, _⟩
  rw [l5] at hM
  have M12 := Lib.hid hM
  clear hM M10 Ho Hb
  go_wp2_with fail
  refine (len_mine M12.out _ (by go_grown)).mono ?_
  rintro r w13 ⟨rfl, rfl⟩
  go_wp2_with fail
  go_ret
  exact ⟨rfl, M12.out.below⟩
end Go.Proofs.Ytihfapnipifiiaa
