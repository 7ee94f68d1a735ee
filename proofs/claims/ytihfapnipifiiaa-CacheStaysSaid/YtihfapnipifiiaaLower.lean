/- The walks of name.Lower and of its reference. -/
import Derived.Test.YtihfapnipifiiaaName1
import Derived.Lib.ConvBytes
import Derived.Laws.BytesArg
import Derived.Laws.BitsAllLaws
namespace Go.Proofs.Ytihfapnipifiiaa
open Go Go.RowKit Go.Shelf

/-- A row of bytes in memory, from its block's head on: written so far up to k with small letters. -/
def LowRow (s : ByteArray) (b k : Nat) (W : World) : Prop :=
  ∀ i, i < s.size → W.cell? ⟨b, i, none⟩ = some (.int .u8 ((if i < k then lowB ((lst s).getD i 0) else (lst s).getD i 0).toNat : Nat)) ∧ W.frozen? ⟨b, i, none⟩ = false
theorem LowRow.start (s : ByteArray) (w : World) : LowRow s w.heap.size 0 (Lib.bytesWorld w 5 s) := by
  intro i hi
  refine ⟨?_, ?_⟩
  · rw [Lib.bytesWorld_cell w _ s i hi, if_neg (by omega)]; rfl
  · unfold World.frozen?
    rw [Lib.bytesWorld_at_new]
    have : i < (Lib.bytesCells w 5 s).size := by
      unfold Lib.bytesCells; rw [Array.size_append, Array.size_map]; have : s.data.size = s.size := rfl; omega
    simp; omega
theorem bytes_below (w : World) (e : TypeId) (s : ByteArray) : Below w.heap.size w (Lib.bytesWorld w e s) :=
  ⟨rfl, rfl, rfl, by rw [Lib.bytesWorld_size]; omega, fun k hk => Lib.bytesWorld_at_old w e s k hk⟩
theorem LowRow.step {s : ByteArray} {b k : Nat} {W : World} (h : LowRow s b k W) (hk : k < s.size) {v : Value} (hv : v = .int .u8 ((lowB ((lst s).getD k 0)).toNat : Nat)) : LowRow s b (k + 1) (W.setCell ⟨b, k, none⟩ v) := by
  intro i hi
  refine ⟨?_, by rw [World.frozen?_setCell]; exact (h i hi).2⟩
  by_cases e : i = k
  · subst e; rw [if_pos (by omega), cell_set_same (h i hi).1, hv]
  · rw [World.cell?_setCell_other _ _ _ _ (by intro h; cases h; exact e rfl), (h i hi).1]
    by_cases h1 : i < k
    · rw [if_pos h1, if_pos (by omega)]
    · rw [if_neg h1, if_neg (by omega)]
theorem LowRow.same {s : ByteArray} {b k : Nat} {W : World} (h : LowRow s b k W) (hk : k < s.size) (hl : lowB ((lst s).getD k 0) = (lst s).getD k 0) : LowRow s b (k + 1) W := by
  intro i hi
  refine ⟨?_, (h i hi).2⟩
  rw [(h i hi).1]
  by_cases e : i = k
  · subst e; rw [if_neg (by omega), if_pos (by omega), hl]
  · by_cases h1 : i < k
    · rw [if_pos h1, if_pos (by omega)]
    · rw [if_neg h1, if_neg (by omega)]

theorem or32 : ∀ c : Nat, c < 91 → 65 ≤ c → c ||| 32 = c + 32 := by decide
theorem bits_or32 (c : Nat) (h1 : 65 ≤ c) (h2 : c ≤ 90) : bits .or .u8 (c : Int) 32 = (c : Int) + 32 := by
  have := u8_or_nat c 32 (by omega) (by omega)
  rw [or32 c (by omega) h1] at this
  simpa using this
theorem low_get {s : ByteArray} {k c : Nat} (hk : k < s.size) (hc : ((lst s).getD k 0).toNat = c) : (lowB ((lst s).getD k 0)).toNat = if 65 ≤ c ∧ c ≤ 90 then c + 32 else c := by
  unfold lowB
  have e : (65 ≤ (lst s).getD k 0 ∧ (lst s).getD k 0 ≤ 90) ↔ (65 ≤ c ∧ c ≤ 90) := by
    simp only [UInt8.le_iff_toNat_le, hc]; exact Iff.rfl
  by_cases h : 65 ≤ c ∧ c ≤ 90
  · rw [if_pos h, if_pos (e.2 h), UInt8.toNat_add, hc]
    show (c + 32) % 256 = c + 32
    omega
  · rw [if_neg h, if_neg (fun h' => h (e.1 h')), hc]
theorem LowRow.done {s : ByteArray} {b : Nat} {W : World} (h : LowRow s b s.size W) : ∀ i, i < s.size → W.cell? ⟨b, 0 + i, none⟩ = some (.int .u8 (((low (lst s)).map fun c => ((c.toNat : Nat) : Int)).getD i 0)) := by
  intro i hi
  rw [Nat.zero_add, (h i hi).1, if_pos hi]
  have hl : i < (lst s).length := by rw [lst_length]; exact hi
  unfold low
  simp [List.getD, List.getElem?_eq_getElem hl]
theorem low_str (s : ByteArray) : strOfNums ((low (lst s)).map fun c => ((c.toNat : Nat) : Int)) = bs (low (lst s)) := by
  apply lst_inj
  rw [lst_bs]; unfold lst
  rw [strOfNums_data, List.map_map]
  conv => rhs; rw [← List.map_id (low s.data.toList)]
  apply List.map_congr_left
  intro c _
  simp

set_option maxRecDepth 100000 in
set_option maxHeartbeats 1000000 in
theorem lower_any (s : ByteArray) (w : World) (hs : s.size ≤ 140737488355328) :
    Calls Try.prog 75 #[.string s] w fun e w' => e = .returned (.string (bs (low (lst s)))) ∧ Below w.heap.size w w' := by
  have hcv := fun (w : World) => Lib.run_convert_string_bytes w 9 109 5 s Try.underlying9 Try.underlying109 Try.underlying5
  go_enter Try.func75, Try.ntmps75
  go_wp2
  generalize hG : grownCap w s.size 0 5 = cap
  have hsz : (Lib.bytesWorld w 5 s).heap.size = w.heap.size + 1 := Lib.bytesWorld_size _ _ _
  have Hsz := Lib.hid hsz
  clear hG hsz
  go_loopw [4, 9] (fun _ k_ wr => ∃ k : Nat, k_ = .int .i64 k ∧ k ≤ s.size ∧ LowRow s w.heap.size k wr ∧ Below w.heap.size w wr ∧ w.heap.size < wr.heap.size) (fun _ i _ => s.size - (intOf i).toNat)
  case atStart => exact ⟨0, rfl, Nat.zero_le _, LowRow.start s w, bytes_below _ _ _, by rw [Hsz.out]; omega⟩
  case round =>
    obtain ⟨k, rfl, hk, hrow, hB, hz⟩ := hrel
    have Hrow := Lib.hid hrow
    clear hrow hcv
    by_cases hlt : k < s.size
    · obtain ⟨c, HC⟩ : ∃ c, Hid (((lst s).getD k 0).toNat = c) := ⟨_, rfl⟩
      have hcell := (Hrow.out k hlt).1
      have hfr := (Hrow.out k hlt).2
      rw [if_neg (by omega), HC.out] at hcell
      have HL := Lib.hid (low_get hlt HC.out)
      have hc255 : c ≤ 255 := by rw [← HC.out]; have := ((lst s).getD k 0).toNat_lt; omega
      by_cases h65 : 65 ≤ c ∧ c ≤ 90
      · obtain ⟨h65, h90⟩ := h65
        have hor := bits_or32 c h65 h90
        go_wp2
        go_roundw
        case rel => exact ⟨k + 1, by go_num, by omega, Hrow.out.step hlt (by rw [HL.out, if_pos ⟨h65, h90⟩]; go_num), hB.setCell (by simp) _, by simp [World.setCell]; omega⟩
        case measure => simp [intOf]; omega
      · by_cases h6 : 65 ≤ c
        · have h90 : 90 < c := by omega
          go_wp2
          go_roundw
          case rel => exact ⟨k + 1, by go_num, by omega, Hrow.out.same hlt (UInt8.toNat_inj.1 (by rw [HL.out, if_neg h65, HC.out])), hB, hz⟩
          case measure => simp [intOf]; omega
        · go_wp2
          go_roundw
          case rel => exact ⟨k + 1, by go_num, by omega, Hrow.out.same hlt (UInt8.toNat_inj.1 (by rw [HL.out, if_neg h65, HC.out])), hB, hz⟩
          case measure => simp [intOf]; omega
    · have hcc := run_convert_bytes_arg (P := Try.prog) wr 109 5 Try.underlying109 Try.underlying5 w.heap.size 0 s.size cap ((low (lst s)).map fun c => ((c.toNat : Nat) : Int)) (by unfold low; simp [lst_length]) (LowRow.done (by have := Hrow.out; rwa [show k = s.size by omega] at this)) 9 Try.underlying9
      rw [low_str] at hcc
      go_wp2
      go_ret
      exact ⟨rfl, hB⟩
set_option maxRecDepth 100000 in
set_option maxHeartbeats 1000000 in
theorem rlower_any (s : ByteArray) (w : World) (hs : s.size ≤ 140737488355328) :
    Calls Try.prog 24 #[.string s] w fun e w' => e = .returned (.string (bs (low (lst s)))) ∧ Below w.heap.size w w' := by
  have hcv := fun (w : World) => Lib.run_convert_string_bytes w 9 109 5 s Try.underlying9 Try.underlying109 Try.underlying5
  go_enter Try.func24, Try.ntmps24
  go_wp2
  generalize hG : grownCap w s.size 0 5 = cap
  have hsz : (Lib.bytesWorld w 5 s).heap.size = w.heap.size + 1 := Lib.bytesWorld_size _ _ _
  have Hsz := Lib.hid hsz
  clear hG hsz
  go_loopw [4] (fun k_ wr => ∃ k : Nat, k_ = .int .i64 k ∧ k ≤ s.size ∧ LowRow s w.heap.size k wr ∧ Below w.heap.size w wr ∧ w.heap.size < wr.heap.size) (fun i _ => s.size - (intOf i).toNat)
  case atStart => exact ⟨0, rfl, Nat.zero_le _, LowRow.start s w, bytes_below _ _ _, by rw [Hsz.out]; omega⟩
  case round =>
    obtain ⟨k, rfl, hk, hrow, hB, hz⟩ := hrel
    have Hrow := Lib.hid hrow
    clear hrow hcv
    by_cases hlt : k < s.size
    · obtain ⟨c, HC⟩ : ∃ c, Hid (((lst s).getD k 0).toNat = c) := ⟨_, rfl⟩
      have hcell := (Hrow.out k hlt).1
      have hfr := (Hrow.out k hlt).2
      rw [if_neg (by omega), HC.out] at hcell
      have HL := Lib.hid (low_get hlt HC.out)
      have hc255 : c ≤ 255 := by rw [← HC.out]; have := ((lst s).getD k 0).toNat_lt; omega
      by_cases h65 : 65 ≤ c ∧ c ≤ 90
      · obtain ⟨h65, h90⟩ := h65
        go_wp2
        go_roundw
        case rel => exact ⟨k + 1, by go_num, by omega, Hrow.out.step hlt (by rw [HL.out, if_pos ⟨h65, h90⟩]; go_num), hB.setCell (by simp) _, by simp [World.setCell]; omega⟩
        case measure => simp [intOf]; omega
      · by_cases h6 : 65 ≤ c
        · have h90 : 90 < c := by omega
          go_wp2
          go_roundw
          case rel => exact ⟨k + 1, by go_num, by omega, Hrow.out.same hlt (UInt8.toNat_inj.1 (by rw [HL.out, if_neg h65, HC.out])), hB, hz⟩
          case measure => simp [intOf]; omega
        · go_wp2
          go_roundw
          case rel => exact ⟨k + 1, by go_num, by omega, Hrow.out.same hlt (UInt8.toNat_inj.1 (by rw [HL.out, if_neg h65, HC.out])), hB, hz⟩
          case measure => simp [intOf]; omega
    · have hcc := run_convert_bytes_arg (P := Try.prog) wr 109 5 Try.underlying109 Try.underlying5 w.heap.size 0 s.size cap ((low (lst s)).map fun c => ((c.toNat : Nat) : Int)) (by unfold low; simp [lst_length]) (LowRow.done (by have := Hrow.out; rwa [show k = s.size by omega] at this)) 9 Try.underlying9
      rw [low_str] at hcc
      go_wp2
      go_ret
      exact ⟨rfl, hB⟩
end Go.Proofs.Ytihfapnipifiiaa
