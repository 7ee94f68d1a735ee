/- The walks of cache.Key, New. -/
import Derived.Test.YtihfapnipifiiaaKey
import Derived.Test.YtihfapnipifiiaaCheck2
namespace Go.Proofs.Ytihfapnipifiiaa
open Go Go.RowKit Go.Shelf

set_option maxRecDepth 100000 in
theorem ckey_any (e : Ent) (rv : Value) (w : World) (he : EntIn e) :
    Calls Try.prog 18 #[e.val rv] w fun r w' => r = .returned (.string (bs e.key)) ∧ Below w.heap.size w w' := by
  obtain ⟨hnm, hrecs, t0, t1, c0, c1⟩ := he
  unfold Ent.val
  by_cases h : e.kind = 3
  · have b : (e.kind == (3 : Int)) = true := beq_iff_eq.2 h
    have H := Lib.hid h
    clear h
    go_enter Try.func18, Try.ntmps18
    go_wp2_with fail
    refine (keyOf_any 1 (bs e.name) 0 e.c _ (by rw [bs_size]; omega) (by omega) (by omega) c0 c1).mono ?_
    rw [lst_bs]
    rintro v w1 ⟨rfl, h3⟩
    go_wp2
    go_ret
    exact ⟨by unfold Ent.key; rw [if_pos H.out]; rfl, ((Below.refl _ w).alloc (Nat.le_refl _) _).trans (h3.mono (by simp))⟩
  · have b : (e.kind == (3 : Int)) = false := beq_eq_false_iff_ne.2 h
    have H := Lib.hid h
    clear h
    go_enter Try.func18, Try.ntmps18
    go_wp2_with fail
    refine (keyOf_any 0 (bs e.name) e.t e.c _ (by rw [bs_size]; omega) t0 t1 c0 c1).mono ?_
    rw [lst_bs]
    rintro v w1 ⟨rfl, h3⟩
    go_wp2
    go_ret
    exact ⟨by unfold Ent.key; rw [if_neg H.out]; rfl, ((Below.refl _ w).alloc (Nat.le_refl _) _).trans (h3.mono (by simp))⟩
end Go.Proofs.Ytihfapnipifiiaa
