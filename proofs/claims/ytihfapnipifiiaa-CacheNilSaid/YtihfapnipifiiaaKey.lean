/- The walks of package cache: keyOf, Key, New, byUse. -/
import Derived.Test.YtihfapnipifiiaaRef5
import Derived.Deep.RegionWith
set_option linter.unusedVariables false
set_option linter.unusedSimpArgs false
namespace Go.Proofs.Ytihfapnipifiiaa
open Go Go.RowKit Go.Shelf

theorem bel_call {w W W' : World} (h : Below w.heap.size w W) (k : Below W.heap.size W W') : Below w.heap.size w W' := h.trans (k.mono h.size)

theorem conv1 (W : World) (b : Nat) (x : Int) (h : W.cell? ⟨b, 0, none⟩ = some (.int .u8 x)) :
    (convert 109 9 (.slice (some ⟨b, 0, none⟩) 1 1)).run Try.prog W = .ok (.string (strOfNums [x])) W :=
  run_convert_bytes_arg (P := Try.prog) W 109 5 Try.underlying109 Try.underlying5 b 0 1 1 [x] rfl (fun i hi => by
    obtain rfl : i = 0 := by omega
    exact h) 9 Try.underlying9
theorem conv4 (W : World) (b : Nat) (x y z u : Int) (h0 : W.cell? ⟨b, 0, none⟩ = some (.int .u8 x)) (h1 : W.cell? ⟨b, 1, none⟩ = some (.int .u8 y)) (h2 : W.cell? ⟨b, 2, none⟩ = some (.int .u8 z)) (h3 : W.cell? ⟨b, 3, none⟩ = some (.int .u8 u)) :
    (convert 109 9 (.slice (some ⟨b, 0, none⟩) 4 4)).run Try.prog W = .ok (.string (strOfNums [x, y, z, u])) W :=
  run_convert_bytes_arg (P := Try.prog) W 109 5 Try.underlying109 Try.underlying5 b 0 4 4 [x, y, z, u] rfl (fun i hi => by
    rcases (show i = 0 ∨ i = 1 ∨ i = 2 ∨ i = 3 by omega) with rfl | rfl | rfl | rfl
    · exact h0
    · exact h1
    · exact h2
    · exact h3) 9 Try.underlying9

theorem run_cat (a b : ByteArray) (h : a.size + b.size ≤ 9223372036854775807) (W : World) : (Op.stringOp .add a b).run Try.prog W = .ok (.string (a ++ b)) W := by
  unfold Op.stringOp
  dsimp only
  rw [if_neg (by have : IntKind.i64.max = 9223372036854775807 := by decide
                 omega)]
  rfl

theorem key_str (p : UInt8) (n : List UInt8) (t c : Int) (t0 : 0 ≤ t) (c0 : 0 ≤ c) :
    Ending.returned (.string (strOfNums [(p.toNat : Int)] ++ bs (low n) ++ strOfNums [t / 256, t % 256, c / 256, c % 256])) = .returned (.string (bs (keyL p n t c))) := by
  congr 2
  apply lst_inj
  rw [lst_bs]
  unfold lst keyL two8
  simp [strOfNums, bs, ByteArray.data_append]

set_option maxRecDepth 100000 in
set_option maxHeartbeats 2000000 in
theorem keyOf_any (p : UInt8) (n : ByteArray) (t c : Int) (w : World) (hs : n.size ≤ 140737488355200) (t0 : 0 ≤ t) (t1 : t ≤ 65535) (c0 : 0 ≤ c) (c1 : c ≤ 65535) :
    Calls Try.prog 55 #[.int .u8 p.toNat, .string n, .int .u16 t, .int .u16 c] w fun e w' => e = .returned (.string (bs (keyL p (lst n) t c))) ∧ Below w.heap.size w w' := by
  go_enter Try.func55, Try.ntmps55
  have hp1 : (strOfNums [(p.toNat : Int)]).size = 1 := strOfNums_size _
  have hp2 : (bs (low (lst n))).size = n.size := by rw [bs_size, low_length, lst_length]
  have hp3 : (strOfNums [t / 256, t % 256, c / 256, c % 256]).size = 4 := strOfNums_size _
  have ha1 := run_cat (strOfNums [(p.toNat : Int)]) (bs (low (lst n))) (by omega)
  have ha2 := run_cat (strOfNums [(p.toNat : Int)] ++ bs (low (lst n))) (strOfNums [t / 256, t % 256, c / 256, c % 256]) (by rw [ByteArray.size_append]; omega)
  have hw1 : IntKind.u8.wrap (t / 256) = t / 256 := IntWalk.u8_in _ (by omega)
  have hw2 : IntKind.u8.wrap t = t % 256 := by rw [IntKind.wrap_u8]
  have hw3 : IntKind.u8.wrap (c / 256) = c / 256 := IntWalk.u8_in _ (by omega)
  have hw4 : IntKind.u8.wrap c = c % 256 := by rw [IntKind.wrap_u8]
  clear hp1 hp2 hp3
  go_wp2
  have hc1 := conv1
  have hc4 := conv4
  have q1 : w.heap.size < w.heap.size + 1 + 1 := by omega
  have q2 : w.heap.size < w.heap.size + 2 := by omega
  have q3 : w.heap.size + 1 < w.heap.size + 2 := by omega
  go_region_with (first | (go_at_call 75; refine (lower_any n _ ?_).mono ?_; omega; rintro e w' ⟨rfl, hb'⟩; have hcl := (bcell hb').1; have hz' := hb'.size; (try simp at hz'); (try have hz2 : w.heap.size < w'.heap.size := by omega); (try have hz3 : w.heap.size + 1 < w'.heap.size := by omega)))
  all_goals go_wp2
  all_goals go_ret
  all_goals (refine ⟨?_, ?_⟩)
  all_goals first
    | exact key_str p (lst n) t c t0 c0
    | (repeat (first | assumption | exact Below.refl _ _ | refine Below.drew ?_ | refine bel_alloc ?_ _ | refine bel_call ?_ hb'))
end Go.Proofs.Ytihfapnipifiiaa
