/- The walk of the statements' own 'entry'. -/
import Derived.Test.YtihfapnipifiiaaPlain2
namespace Go.Proofs.Ytihfapnipifiiaa
open Go Go.RowKit Go.Shelf

set_option maxRecDepth 100000 in
theorem entry_any (b : UInt8) (n til : Int) (w : World) (hn : n = b.toNat) :
    Calls Try.prog 21 #[.int .u8 n, .int .i64 til] w fun r w' => ∃ rv, r = .returned ((entE b til 3 0).val rv) ∧ RecsOwn w' w.heap.size rv (entE b til 3 0).recs ∧ Below w.heap.size w w' := by
  have hX : (⟨#[1]⟩ : ByteArray) ++ strOfNums [(b.toNat : Int)] ++ (⟨#[0]⟩ : ByteArray) = bs [1, b, 0] := by
    apply lst_inj
    rw [lst_bs]
    unfold lst
    simp [strOfNums, ByteArray.data_append]
  have hz : (strOfNums [(b.toNat : Int)]).size = 1 := strOfNums_size _
  have hc1 := conv1
  have q1 : w.heap.size < w.heap.size + 1 := by omega
  have HX := Lib.hid hX
  clear hX
  go_enter Try.func21, Try.ntmps21
  go_wp2_with fail
  rw [HX.out]
  refine bodyPost_ret (v := .agg #[.int .i64 1, .string (bs [1, b, 0]), .int .u16 1, .int .u16 1, .slice (some ⟨w.heap.size + 2, 0, none⟩) 1 1, .int .i64 til, .int .i64 3, .int .i64 0, .int .i64 0]) (by simp [results, Try.results21, go_sem]) rfl ⟨_, rfl, ?_, (((Below.refl _ w).alloc (Nat.le_refl _) _).alloc (by simp) _).alloc (by simp; omega) _⟩
  refine ⟨rfl, .inr ⟨w.heap.size + 2, 1, #[.string (bs [1, b, 0]), .int .u16 1, .int .u16 1, .int .u32 0, .string (bs [1, 2, 3, 4])], rfl, by omega, ?_, Nat.le_refl _, by unfold maxLen; omega, rfl, rfl⟩⟩
  have := heap_alloc_new ((w.alloc (.cells #[.int .i64 1, .string (bs [1, b, 0]), .int .u16 1, .int .u16 1, .slice (some ⟨w.heap.size + 2, 0, none⟩) 1 1, .int .i64 til, .int .i64 3, .int .i64 0, .int .i64 0] 25)).alloc (.cells #[.int .u8 b.toNat] 5)) (.cells #[.string (bs [1, b, 0]), .int .u16 1, .int .u16 1, .int .u32 0, .string (bs [1, 2, 3, 4])] 56)
  rw [World.size_alloc, World.size_alloc] at this
  exact this
end Go.Proofs.Ytihfapnipifiiaa
