/- CacheChecks: for any two entries: which entries may be, and their keys, are as the document says. -/
import Derived.Test.YtihfapnipifiiaaRows
import Derived.Test.YtihfapnipifiiaaChecks
import Derived.Test.YtihfapnipifiiaaRowKit
import Derived.Test.YtihfapnipifiiaaOpen
set_option linter.unusedVariables false
namespace Go.Proofs.Ytihfapnipifiiaa.cacheChecks
open Go Go.ChangeShapes Go.WideShapes Go.ChangeAt Go.RowKit

theorem own : ownKnob Try.prog.godebug = none := by kernel_rfl
theorem laidOut : laidOutB Try.prog = true := by kernel_rfl
theorem par : (Try.f3.params.toList.all fun t => Try.prog.readableRec t && decide (t < Try.prog.types.size)) = true := by kernel_rfl

set_option maxRecDepth 100000 in
theorem lifted (os : Os) (started : os.Started) (H : Type) (enc : TypeId × Value → H) :
    ReturnsInHanded {} Try.checked os 3 .any (Rows.cacheChecksSpec.pre6 enc Try.prog Try.f3 Rows.cacheChecksRow.domain false) (Rows.cacheChecksSpec.post enc Try.prog Try.f3 false true false false) := by
  refine returnsInHanded_of_change (C := Try.checked) own started (by kernel_rfl) Try.func3
    (ChangeSpec.witness6 (enc := enc) (C := Try.checked) false ⟨#[], #[.agg #[.int .i64 0, .string ⟨#[]⟩, .int .u16 0, .int .u16 0, .slice none 0 0, .int .i64 0, .int .i64 0, .int .i64 0, .int .i64 0], .agg #[.int .i64 0, .string ⟨#[]⟩, .int .u16 0, .int .u16 0, .slice none 0 0, .int .i64 0, .int .i64 0, .int .i64 0, .int .i64 0]], []⟩ 8 (by kernel_rfl) (by kernel_rfl) (by kernel_rfl) (by kernel_rfl)) ?_
  intro W base args ds gs before hval0 hW hcnd _
  have hval : ∀ (j : Nat) t v, Try.f3.params[j]? = some t → args[j]? = some v → Value.okWide Try.prog W .any base t v := hval0
  have hW' := hW
  obtain ⟨p, q, hA0, hV, rfl, hfz, hnd⟩ := hW
  have hA : DataW.TrodAll enc Try.prog W 0 (fun _ => true) true Try.f3.params.toList args.toList ds p := hA0
  rw [Try.params3] at hA hval
  obtain ⟨v0, vs0, d0, ds0, p0, q0, hargs, rfl, rfl, h0, r0⟩ := trodAll_cons hA
  obtain ⟨v1, vs1, d1, ds1, p1, q1, rfl, rfl, rfl, h1, r1⟩ := trodAll_cons r0
  obtain ⟨rfl, rfl, rfl⟩ := trodAll_nil r1
  obtain rfl : args = #[v0, v1] := by cases args; simp_all
  obtain ⟨rfl, rfl⟩ := trodVars_none hV
  obtain ⟨en, rv, rfl, hrv, hwf⟩ := open_ent (hval 0 25 v0 rfl rfl) h0
  obtain ⟨en2, rv2, rfl, hrv2, hwf2⟩ := open_ent (hval 1 25 v1 rfl rfl) h1
  clear hA0 hval0
  simp only [List.append_nil] at hW'
  refine (checks_any en en2 rv rv2 W hrv hwf hrv2 hwf2).mono fun e W' ⟨he, hg⟩ => ?_
  subst he
  refine ⟨_, rfl, post_law laidOut (fun t ht => ?_) rfl (by kernel_rfl) Try.underlying4 hW' rfl hg⟩
  have := List.all_eq_true.1 par t ht
  rw [Bool.and_eq_true, decide_eq_true_eq] at this
  exact this

theorem over : Rows.cacheChecksRow.holds Try.pinned (OpenSpec.ofChange Rows.cacheChecksSpec) :=
  OpenClaim.holds_of_wide 3 Try.f3 rfl rfl rfl rfl rfl rfl rfl ⟨rfl, rfl, rfl, rfl, rfl⟩ rfl rfl rfl rfl rfl (by kernel_rfl) Try.func3 (by kernel_rfl)
    (of_decide_eq_true (by kernel_rfl)) (by unfold Func.isWrapper; first | (rw [if_pos (by decide +kernel)]; kernel_rfl) | (rw [if_neg (by decide +kernel)]; exact ⟨rfl, rfl⟩))
    (fun os started H enc _ => lifted os started H enc)

theorem proved : Rows.CacheChecksSaid :=
  over
end Go.Proofs.Ytihfapnipifiiaa.cacheChecks
