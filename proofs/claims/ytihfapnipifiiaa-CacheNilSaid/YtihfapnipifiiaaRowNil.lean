/- CacheNil: for every text: of no cache nothing is told; a zero one has room for one. -/
import Derived.Test.YtihfapnipifiiaaRows
import Derived.Test.YtihfapnipifiiaaNil
import Derived.Test.YtihfapnipifiiaaRowKit
import Derived.SizedLaws
set_option linter.unusedVariables false
namespace Go.Proofs.Ytihfapnipifiiaa.cacheNil
open Go Go.ChangeMaps Go.ChangeShapes Go.WideShapes Go.ChangeAt Go.RowKit

theorem own : ownKnob Try.prog.godebug = none := by kernel_rfl
theorem laidOut : laidOutB Try.prog = true := by kernel_rfl
theorem par : (Try.f12.params.toList.all fun t => Try.prog.readableRec t && decide (t < Try.prog.types.size)) = true := by kernel_rfl

set_option maxRecDepth 100000 in
theorem lifted (os : Os) (started : os.Started) (H : Type) (enc : TypeId × Value → H) :
    ReturnsInHanded {} Try.checked os 12 .any (Rows.cacheNilSpec.pre6 enc Try.prog Try.f12 Rows.cacheNilRow.domain false) (Rows.cacheNilSpec.post enc Try.prog Try.f12 false true false false) := by
  refine returnsInHanded_of_change_sized (C := Try.checked) own started (by kernel_rfl) Try.func12
    (ChangeSpec.witness6 (enc := enc) (C := Try.checked) false ⟨#[], #[.string ⟨#[]⟩], []⟩ 8 (by kernel_rfl) (by kernel_rfl) (by kernel_rfl) (by kernel_rfl)) ?_
  intro W base args ds gs before hval0 hW hcnd hsz _
  have hval : ∀ (j : Nat) t v, Try.f12.params[j]? = some t → args[j]? = some v → Value.okWide Try.prog W .any base t v := hval0
  have hW' := hW
  obtain ⟨p, q, hA0, hV, rfl, hfz, hnd⟩ := hW
  have hA : DataW.TrodAll enc Try.prog W 0 (fun _ => true) true Try.f12.params.toList args.toList ds p := hA0
  rw [Try.params12] at hA hval
  obtain ⟨v0, vs0, d0, ds0, p0, q0, hargs, rfl, rfl, h0, r0⟩ := trodAll_cons hA
  obtain ⟨rfl, rfl, rfl⟩ := trodAll_nil r0
  obtain rfl : args = #[v0] := by cases args; simp_all
  obtain ⟨rfl, rfl⟩ := trodVars_none hV
  obtain ⟨n, rfl, hd0, _, w0⟩ := open_string Try.underlying9 (hval 0 9 v0 rfl rfl) h0
  have hn : n.size ≤ 140737488355200 := by
    have h1 := sized_string hsz (j := 0) (t := 9) (bytes := n.data.toList) rfl (by rw [hd0]; rfl)
    have h2 : n.data.toList.length = n.size := lst_length n
    unfold reachBytes at h1
    omega
  clear hA0 hval0
  simp only [List.append_nil] at hW'
  refine (nil_any n W hn).mono fun e W' ⟨he, hg⟩ => ?_
  subst he
  refine ⟨_, rfl, post_law laidOut (fun t ht => ?_) rfl (by kernel_rfl) Try.underlying4 hW' rfl hg⟩
  have := List.all_eq_true.1 par t ht
  rw [Bool.and_eq_true, decide_eq_true_eq] at this
  exact this

theorem over : Rows.cacheNilRow.holds Try.pinned (OpenSpec.ofChange Rows.cacheNilSpec) :=
  OpenClaim.holds_of_wide 12 Try.f12 rfl rfl rfl rfl rfl rfl rfl ⟨rfl, rfl, rfl, rfl, rfl⟩ rfl rfl rfl rfl rfl (by kernel_rfl) Try.func12 (by kernel_rfl)
    (of_decide_eq_true (by kernel_rfl)) (by unfold Func.isWrapper; first | (rw [if_pos (by decide +kernel)]; kernel_rfl) | (rw [if_neg (by decide +kernel)]; exact ⟨rfl, rfl⟩))
    (fun os started H enc _ => lifted os started H enc)

theorem proved : Rows.CacheNilSaid :=
  over
end Go.Proofs.Ytihfapnipifiiaa.cacheNil
