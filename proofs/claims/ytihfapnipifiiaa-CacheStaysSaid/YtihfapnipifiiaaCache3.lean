/- The walk of slices.MinFunc over a cache's items. -/
import Derived.Test.YtihfapnipifiiaaCache2
namespace Go.Proofs.Ytihfapnipifiiaa
open Go Go.RowKit Go.Shelf

set_option maxRecDepth 100000 in
theorem minFunc_any (g cap : Nat) (its : List It) (w : World) (h : HeapRow w g cap its) (h0 : 0 < its.length) (hlen : its.length ≤ 1099511627776) :
    Calls Try.prog 59 #[.slice (some ⟨g, 0, none⟩) its.length cap, .func (.func 60) #[] #[]] w
      fun e w' => (∃ x ∈ its, e = .returned x.ptr ∧ ∀ y ∈ its, x.used ≤ y.used) ∧ Below w.heap.size w w' := by
  obtain ⟨x0, hx0⟩ := get_of_lt h0
  have hr0 : w.cell? ⟨g, 0, none⟩ = some (.pointer (some ⟨x0.blk, 0, none⟩)) := (h.rowAt hx0).1
  have H := Lib.hid h
  have Hx0 := Lib.hid hx0
  clear h hx0
  go_enter Try.func59, Try.ntmps59
  go_wp2
  go_loopw [5, 6] (fun m_ i_ wr => ∃ (k : Nat) (x : It), i_ = .int .i64 k ∧ m_ = x.ptr ∧ 1 ≤ k ∧ k ≤ its.length ∧ x ∈ its ∧ (∀ y ∈ its.take k, x.used ≤ y.used) ∧ Below w.heap.size w wr) (fun _ i_ _ => its.length - (intOf i_).toNat)
  case atStart =>
    refine ⟨1, x0, rfl, rfl, Nat.le_refl _, by omega, List.mem_of_getElem? Hx0.out, ?_, Below.refl _ _⟩
    intro y hy
    have : y = x0 := by
      have h1 := Hx0.out
      cases its with
      | nil => cases h1
      | cons a l =>
        simp at h1 hy
        rw [hy, h1]
    rw [this]; exact Int.le_refl _
  case round =>
    obtain ⟨k, x, rfl, rfl, hk1, hk2, hx, hall, hB⟩ := hrel
    have HB := Lib.hid hB
    have Hx := Lib.hid hx
    have Hall := Lib.hid hall
    have hz := hB.size
    clear hall hB hx
    unfold It.ptr
    by_cases hlt : k < its.length
    · obtain ⟨y, hy⟩ := get_of_lt hlt
      have q0 := (H.out.rowAt hy).1
      have r0 : wr.cell? ⟨g, k, none⟩ = some (.pointer (some ⟨y.blk, 0, none⟩)) := (HB.out.cell (blk_of_cell q0)).trans q0
      obtain ⟨i, hi⟩ := List.getElem?_of_mem Hx.out
      have a0 := H.out.items i x hi
      have a1 := H.out.items k y hy
      have u0 : wr.cell? ⟨x.blk, 10, none⟩ = some (.int .i64 x.used) := (HB.out.cell a0.lt).trans (a0.cell (o := 10) rfl)
      have u1 : wr.cell? ⟨y.blk, 10, none⟩ = some (.int .i64 y.used) := (HB.out.cell a1.lt).trans (a1.cell (o := 10) rfl)
      have Hy := Lib.hid hy
      clear q0 a0 a1 hi hy
      go_wp2_with fail
      refine (byUse_any y.blk x.blk y.used x.used _ u1 u0).mono ?_
      rintro e w2 ⟨rfl, h2⟩
      have HB2 := Lib.hid (HB.out.trans (h2.mono HB.out.size))
      have r2 : w2.cell? ⟨g, k, none⟩ = some (.pointer (some ⟨y.blk, 0, none⟩)) := (h2.cell (blk_of_cell r0)).trans r0
      clear h2
      by_cases hu : y.used < x.used
      · have hc : cmpI y.used x.used = -1 := by unfold cmpI; rw [if_pos hu]
        have Hu := Lib.hid hu
        rw [hc]
        clear hu
        go_wp2
        refine ⟨⟨k + 1, y, rfl, rfl, by omega, by omega, List.mem_of_getElem? Hy.out, ?_, HB2.out⟩, by simp [intOf]; omega⟩
        intro z hz
        rw [List.take_add_one, List.mem_append, Hy.out] at hz
        rcases hz with hz | hz
        · have := Hall.out z hz
          have := Hu.out
          omega
        · have : z = y := by simpa using hz
          rw [this]; exact Int.le_refl _
      · have hc : 0 ≤ cmpI y.used x.used := by unfold cmpI; rw [if_neg hu]; split <;> omega
        have hd : decide (cmpI y.used x.used < 0) = false := decide_eq_false (by omega)
        have Hu := Lib.hid hu
        clear hu
        go_wp2
        refine ⟨⟨k + 1, x, rfl, rfl, by omega, by omega, Hx.out, ?_, HB2.out⟩, by simp [intOf]; omega⟩
        intro z hz
        rw [List.take_add_one, List.mem_append, Hy.out] at hz
        rcases hz with hz | hz
        · exact Hall.out z hz
        · have : z = y := by simpa using hz
          rw [this]
          have := Hu.out
          omega
    · have hke : k = its.length := by omega
      have Hke := Lib.hid hke
      clear hke
      go_wp2
      go_ret
      refine ⟨⟨x, Hx.out, rfl, ?_⟩, HB.out⟩
      intro y hy
      refine Hall.out y ?_
      rw [Hke.out, List.take_length]; exact hy
end Go.Proofs.Ytihfapnipifiiaa
