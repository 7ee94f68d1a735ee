/- Arguments that are entries, opened. -/
import Derived.Test.YtihfapnipifiiaaPut
import Derived.Deep.Slices
import Derived.Deep.Fields
import Derived.ChangeSame
import Derived.ProofKit
import Derived.OpenShut
set_option linter.unusedVariables false
set_option linter.unusedSimpArgs false
namespace Go.Proofs.Ytihfapnipifiiaa
open Go Go.ChangeShapes Go.WideShapes Go.RowKit Go.Deep Go.Shelf

section
variable {H : Type} {enc : TypeId × Value → H} {P : Program} {w : World} {base : Nat} {spare : Nat → Bool} {held : Bool}
/-- A struct's fields of one cell each. -/
theorem open_fields {t : TypeId} {fs : Array Field} {fuel : Nat} {cs : List Value} {x : DataW H × List MemPlace} (ht : P.underlying t = some (.struct fs)) (hone : oneCellFields P fs = true) (h : DataW.trod enc P w base spare held fuel t cs = some x) :
    cs.length = P.cellsOf t ∧ ∀ (j : Nat) (f : Field), fs[j]? = some f → ∃ (v : Value) (y : DataW H × List MemPlace) (n : Nat), cs[j]? = some v ∧ DataW.trod enc P w base spare held n f.type [v] = some y := by
  obtain ⟨ys, n', hn', hy, hlen, hyl, hf⟩ := DataW.trod_struct ht h
  refine ⟨hlen, fun j f hj => ?_⟩
  obtain ⟨ho, hk⟩ := hone_of hone j f hj
  have h1 := hf j f hj
  rw [ho, hk] at h1
  have hjl : j < fs.size := (Array.getElem?_eq_some_iff.1 hj).1
  have hys : ys[j]? = some (ys[j]'(by omega)) := List.getElem?_eq_getElem (by omega)
  rw [hys] at h1
  cases hc : cs[j]? with
  | none =>
    have : cs.drop j = [] := by
      rw [List.getElem?_eq_none_iff] at hc
      exact List.drop_eq_nil_of_le hc
    rw [this] at h1
    exfalso
    cases n' with
    | zero => simp [DataW.trod] at h1
    | succ m =>
      unfold DataW.trod at h1
      split at h1 <;> simp_all
  | some v =>
    refine ⟨v, ys[j]'(by omega), n', rfl, ?_⟩
    have hlt : j < cs.length := (List.getElem?_eq_some_iff.1 hc).1
    have e : (cs.drop j).take 1 = [v] := by
      rw [List.drop_eq_getElem_cons hlt]
      have := (List.getElem?_eq_some_iff.1 hc).2
      simp [this]
    rw [e] at h1
    exact h1
end

/-- A record that is read: its numbers fit, its texts lie in memory. -/
structure RRec.wf (r : RRec) : Prop where
  ok : r.ok
  name : r.name.length ≤ maxLen
  data : r.data.length ≤ maxLen
structure Ent.wf (e : Ent) : Prop where
  name : e.name.length ≤ maxLen
  recs : ∀ r ∈ e.recs, r.wf
  len : e.recs.length ≤ maxLen
  t0 : 0 ≤ e.t
  t1 : e.t ≤ 65535
  c0 : 0 ≤ e.c
  c1 : e.c ≤ 65535
  kind : -9223372036854775808 ≤ e.kind ∧ e.kind ≤ 9223372036854775807
  til : -9223372036854775808 ≤ e.til ∧ e.til ≤ 9223372036854775807
  rank : -9223372036854775808 ≤ e.rank ∧ e.rank ≤ 9223372036854775807
  epoch : -9223372036854775808 ≤ e.epoch ∧ e.epoch ≤ 9223372036854775807
  source : -9223372036854775808 ≤ e.source ∧ e.source ≤ 9223372036854775807

section
variable {H : Type} {enc : TypeId × Value → H} {w : World} {base : Nat} {spare : Nat → Bool} {held : Bool}
theorem open_rr {fuel : Nat} {cs : List Value} {x : DataW H × List MemPlace} (h : DataW.trod enc Try.prog w base spare held fuel 56 cs = some x) : ∃ r : RRec, cs = r.cells ∧ r.wf := by
  obtain ⟨hl, hf⟩ := open_fields Try.underlying56 (by kernel_rfl) h
  have hl5 : cs.length = 5 := hl.trans (by kernel_rfl)
  obtain ⟨v0, y0, n0, c0, t0⟩ := hf 0 _ rfl
  obtain ⟨v1, y1, n1, c1, t1⟩ := hf 1 _ rfl
  obtain ⟨v2, y2, n2, c2, t2⟩ := hf 2 _ rfl
  obtain ⟨v3, y3, n3, c3, t3⟩ := hf 3 _ rfl
  obtain ⟨v4, y4, n4, c4, t4⟩ := hf 4 _ rfl
  obtain ⟨s0, e0, _, z0⟩ := DataW.trod_string Try.underlying9 t0
  obtain ⟨k1, e1, _, z1⟩ := DataW.trod_int Try.underlying22 t1
  obtain ⟨k2, e2, _, z2⟩ := DataW.trod_int Try.underlying22 t2
  obtain ⟨k3, e3, _, z3⟩ := DataW.trod_int Try.underlying54 t3
  obtain ⟨s4, e4, _, z4⟩ := DataW.trod_string Try.underlying9 t4
  cases e0; cases e1; cases e2; cases e3; cases e4
  have b1 := bounds_u16 z1
  have b2 := bounds_u16 z2
  have b3 := bounds_u32 z3
  refine ⟨⟨lst s0, k1, k2, k3, lst s4⟩, ?_, ⟨b1.1, b1.2, b2.1, b2.2, b3.1, b3.2⟩, by show (lst s0).length ≤ _; rw [lst_length]; exact z0, by show (lst s4).length ≤ _; rw [lst_length]; exact z4⟩
  unfold RRec.cells
  dsimp only
  rw [bs_lst, bs_lst]
  apply List.ext_getElem?
  intro j
  rcases (show j = 0 ∨ j = 1 ∨ j = 2 ∨ j = 3 ∨ j = 4 ∨ 5 ≤ j by omega) with rfl | rfl | rfl | rfl | rfl | h
  · exact c0
  · exact c1
  · exact c2
  · exact c3
  · exact c4
  · rw [List.getElem?_eq_none (by omega), List.getElem?_eq_none (by simpa using h)]
theorem open_recs {fuel : Nat} {v : Value} {x : DataW H × List MemPlace} (h : DataW.trod enc Try.prog w base spare held fuel 23 [v] = some x) : ∃ rs : List RRec, RecsAt w v rs ∧ (∀ r ∈ rs, r.wf) ∧ rs.length ≤ maxLen := by
  rcases open_slice Try.underlying23 h with ⟨e, _⟩ | ⟨a, len, cap, m, n, D, Pl, e, hb, hl, hm, hmm, _, hx⟩
  · cases e
    exact ⟨[], ⟨none, 0, rfl, Nat.le_refl _, .inl rfl⟩, fun r hr => (by cases hr), Nat.zero_le _⟩
  · cases e
    have hlm : len ≤ m := by rw [hmm]; split <;> omega
    have hC : Try.prog.cellsOf 56 = 5 := by kernel_rfl
    rw [hC] at hx
    haveI : Inhabited RRec := ⟨⟨[], 0, 0, 0, []⟩⟩
    obtain ⟨V, hV⟩ := choose_lt (α := RRec) (p := fun i r => (∀ j u, r.cells[j]? = some u → w.cell? (a.add (i * 5 + j)) = some u) ∧ r.wf) (n := len) (fun i hi => by
      obtain ⟨cs', h1, h2⟩ := hx i (by omega)
      obtain ⟨r, rfl, hr⟩ := open_rr h2
      obtain ⟨_, _, hat⟩ := World.cells?_some h1
      refine ⟨r, fun j u hj => ?_, hr⟩
      have hj5 : j < 5 := (List.getElem?_eq_some_iff.1 hj).1
      rw [← add_add, hat j hj5, hj])
    refine ⟨(List.range len).map V, ⟨some a, cap, by simp, by simpa using hl, ?_⟩, ?_, by simp; omega⟩
    · by_cases h0 : len = 0
      · left; rw [h0]; rfl
      · right
        obtain ⟨b, off, spot⟩ := a
        have g0 := (hV 0 (by omega)).1 0 _ rfl
        have hspot : spot = none := by simpa [Addr.add] using World.cell?_spot g0
        subst hspot
        refine ⟨b, off, rfl, fun i r hi j u hj => ?_⟩
        have hil : i < len := by have := (List.getElem?_eq_some_iff.1 hi).1; simpa using this
        have e : r = V i := by simpa [List.getElem?_map, List.getElem?_range hil] using hi.symm
        subst e
        have := (hV i hil).1 j u hj
        rw [add_plain] at this
        rw [← Nat.add_assoc] at this
        exact this
    · intro r hr
      obtain ⟨i, hi, rfl⟩ := List.mem_map.1 hr
      exact (hV i (by simpa using hi)).2
theorem open_entC {fuel : Nat} {cs : List Value} {x : DataW H × List MemPlace} (h : DataW.trod enc Try.prog w base spare held fuel 25 cs = some x) : ∃ (e : Ent) (rv : Value), cs = e.vals rv ∧ RecsAt w rv e.recs ∧ e.wf := by
  obtain ⟨hl, hf⟩ := open_fields Try.underlying25 (by kernel_rfl) h
  have hl9 : cs.length = 9 := hl.trans (by kernel_rfl)
  obtain ⟨v0, y0, n0, c0, t0⟩ := hf 0 _ rfl
  obtain ⟨v1, y1, n1, c1, t1⟩ := hf 1 _ rfl
  obtain ⟨v2, y2, n2, c2, t2⟩ := hf 2 _ rfl
  obtain ⟨v3, y3, n3, c3, t3⟩ := hf 3 _ rfl
  obtain ⟨v4, y4, n4, c4, t4⟩ := hf 4 _ rfl
  obtain ⟨v5, y5, n5, c5, t5⟩ := hf 5 _ rfl
  obtain ⟨v6, y6, n6, c6, t6⟩ := hf 6 _ rfl
  obtain ⟨v7, y7, n7, c7, t7⟩ := hf 7 _ rfl
  obtain ⟨v8, y8, n8, c8, t8⟩ := hf 8 _ rfl
  obtain ⟨k0, e0, _, z0⟩ := DataW.trod_int Try.underlying3 t0
  obtain ⟨s1, e1, _, z1⟩ := DataW.trod_string Try.underlying9 t1
  obtain ⟨k2, e2, _, z2⟩ := DataW.trod_int Try.underlying22 t2
  obtain ⟨k3, e3, _, z3⟩ := DataW.trod_int Try.underlying22 t3
  obtain ⟨rs, hrs, hrw, hrl⟩ := open_recs t4
  obtain ⟨k5, e5, _, z5⟩ := DataW.trod_int Try.underlying3 t5
  obtain ⟨k6, e6, _, z6⟩ := DataW.trod_int Try.underlying3 t6
  obtain ⟨k7, e7, _, z7⟩ := DataW.trod_int Try.underlying3 t7
  obtain ⟨k8, e8, _, z8⟩ := DataW.trod_int Try.underlying3 t8
  cases e0; cases e1; cases e2; cases e3; cases e5; cases e6; cases e7; cases e8
  have b2 := bounds_u16 z2
  have b3 := bounds_u16 z3
  refine ⟨⟨k0, lst s1, k2, k3, rs, k5, k6, k7, k8⟩, v4, ?_, hrs, ⟨by show (lst s1).length ≤ _; rw [lst_length]; exact z1, hrw, hrl, b2.1, b2.2, b3.1, b3.2, bounds_i64 z0, bounds_i64 z5, bounds_i64 z6, bounds_i64 z7, bounds_i64 z8⟩⟩
  unfold Ent.vals
  dsimp only
  rw [bs_lst]
  apply List.ext_getElem?
  intro j
  rcases (show j = 0 ∨ j = 1 ∨ j = 2 ∨ j = 3 ∨ j = 4 ∨ j = 5 ∨ j = 6 ∨ j = 7 ∨ j = 8 ∨ 9 ≤ j by omega) with rfl | rfl | rfl | rfl | rfl | rfl | rfl | rfl | rfl | h
  · exact c0
  · exact c1
  · exact c2
  · exact c3
  · exact c4
  · exact c5
  · exact c6
  · exact c7
  · exact c8
  · rw [List.getElem?_eq_none (by omega), List.getElem?_eq_none (by simpa using h)]
set_option maxRecDepth 100000 in
/-- An entry by value. -/
theorem open_ent {r : Reach} {b0 : Nat} {v : Value} {d : DataW H} {p : List MemPlace} (hv : Value.okWide Try.prog w r b0 25 v) (h : DataW.Trod enc Try.prog w base spare held 25 v d p) : ∃ (e : Ent) (rv : Value), v = e.val rv ∧ RecsAt w rv e.recs ∧ e.wf := by
  obtain ⟨cs, rfl, hsz⟩ := okWide_struct Try.underlying25 hv
  obtain ⟨fuel, hf⟩ := h
  obtain ⟨e, rv, hc, hr, hw⟩ := open_entC hf
  refine ⟨e, rv, ?_, hr, hw⟩
  have hc' : cs.toList = e.vals rv := hc
  have : cs = (e.vals rv).toArray := by rw [← hc', Array.toArray_toList]
  rw [this]; rfl
end
end Go.Proofs.Ytihfapnipifiiaa
