/- The walk of fingerpostref16.Same. -/
import Derived.Test.YtihfapnipifiiaaPut
import Derived.Laws.StructEq
import Derived.Handy
set_option linter.unusedVariables false
set_option linter.unusedSimpArgs false
namespace Go.Proofs.Ytihfapnipifiiaa
open Go Go.RowKit Go.Shelf

noncomputable def sameR (a b : RRec) : Bool := @decide (a = b) (Classical.propDecidable _)
noncomputable def sameE (a b : Ent) : Bool := @decide (a = b) (Classical.propDecidable _)
theorem sameR_iff {a b : RRec} : sameR a b = true ↔ a = b := by unfold sameR; exact @decide_eq_true_iff _ (Classical.propDecidable _)
theorem sameE_iff {a b : Ent} : sameE a b = true ↔ a = b := by unfold sameE; exact @decide_eq_true_iff _ (Classical.propDecidable _)
theorem sameE_refl (a : Ent) : sameE a a = true := sameE_iff.2 rfl
theorem sameE_no {a b : Ent} (h : a ≠ b) : sameE a b = false := by
  cases hs : sameE a b
  · rfl
  · exact absurd (sameE_iff.1 hs) h

theorem neq_rr (a b : RRec) (w : World) : (binOp .neq 56 a.val b.val).run Try.prog w = .ok (.bool (!sameR a b)) w := by
  have hS : Try.prog.underlying 56 = some (.struct (Try.prog.fieldsOf 56)) := by kernel_rfl
  have hp : Try.prog.stoodInHeld 56 = false := by kernel_rfl
  have e0 : sameR a b = ((bs a.name).toList == (bs b.name).toList && a.t == b.t && a.c == b.c && a.ttl == b.ttl && (bs a.data).toList == (bs b.data).toList) := by
    rw [Bool.eq_iff_iff, sameR_iff]
    simp only [toList_bs, Bool.and_eq_true, beq_iff_eq]
    constructor
    · rintro rfl; exact ⟨⟨⟨⟨rfl, rfl⟩, rfl⟩, rfl⟩, rfl⟩
    · rintro ⟨⟨⟨⟨h1, h2⟩, h3⟩, h4⟩, h5⟩
      cases a; cases b; simp_all
  rw [e0]
  unfold RRec.val
  rw [run_neq_struct, show (10000 : Nat) = 9999 + 1 from rfl, run_equalIn_agg w 9999 56 _ _ hS hp]
  simp only [Program.fieldsOf, Try.underlying56]
  have a5 := Try.isAgg9
  have a22 := Try.isAgg22
  have a54 := Try.isAgg54
  have z5 := Try.sizeOf9
  have z22 := Try.sizeOf22
  have z54 := Try.sizeOf54
  go_simp
  by_cases h1 : (bs a.name).toList = (bs b.name).toList <;> by_cases h2 : a.t = b.t <;> by_cases h3 : a.c = b.c <;> by_cases h4 : a.ttl = b.ttl <;> by_cases h5 : (bs a.data).toList = (bs b.data).toList <;> simp [h1, h2, h3, h4, h5]

set_option maxRecDepth 100000 in
set_option maxHeartbeats 4000000 in
theorem rsame_any16 (a b : Ent) (ra rb : Value) (w : World) (ha : RecsAt w ra a.recs) (hb : RecsAt w rb b.recs) (hla : a.recs.length ≤ 1099511627776) (hlb : b.recs.length ≤ 1099511627776) :
    Calls Try.prog 26 #[a.val ra, b.val rb] w fun r w' => r = .returned (.bool (sameE a b)) ∧ Below w.heap.size w w' := by
  have hb2 : Below w.heap.size w ((w.alloc (.cells #[.int .i64 a.kind, .string (bs a.name), .int .u16 a.t, .int .u16 a.c, ra, .int .i64 a.til, .int .i64 a.rank, .int .i64 a.epoch, .int .i64 a.source] 25)).alloc (.cells #[.int .i64 b.kind, .string (bs b.name), .int .u16 b.t, .int .u16 b.c, rb, .int .i64 b.til, .int .i64 b.rank, .int .i64 b.epoch, .int .i64 b.source] 25)) := (((Below.refl _ w).alloc (Nat.le_refl _) _).alloc (by simp) _)
  obtain ⟨A, capa, rfl, hca, hA⟩ := ha
  obtain ⟨B, capb, rfl, hcb, hB⟩ := hb
  have Hb2 := Lib.hid hb2
  have HA := Lib.hid hA
  have HB := Lib.hid hB
  clear hb2 hA hB
  unfold Ent.val
  have hcap := hca
  have hcbp := hcb
  by_cases e0 : a.kind = b.kind
  case neg =>
    have hs := sameE_no (a := a) (b := b) (fun q => e0 (by rw [q]))
    have Hs := Lib.hid hs
    have d0 : (a.kind != b.kind) = true := (by simp [e0])
    clear hs e0
    go_enter Try.func26, Try.ntmps26
    go_wp2_with fail
    go_ret
    exact ⟨by rw [Hs.out]; rfl, Hb2.out⟩
  have d0 : (a.kind != b.kind) = false := (by simp [e0])
  have E0 := Lib.hid e0
  clear e0
  by_cases e1 : a.name = b.name
  case neg =>
    have hs := sameE_no (a := a) (b := b) (fun q => e1 (by rw [q]))
    have Hs := Lib.hid hs
    have d1 : ((bs a.name).toList == (bs b.name).toList) = false := (by rw [toList_bs, toList_bs]; simp [e1])
    clear hs e1
    go_enter Try.func26, Try.ntmps26
    go_wp2_with fail
    go_ret
    exact ⟨by rw [Hs.out]; rfl, Hb2.out⟩
  have d1 : ((bs a.name).toList == (bs b.name).toList) = true := (by rw [toList_bs, toList_bs]; simp [e1])
  have E1 := Lib.hid e1
  clear e1
  by_cases e2 : a.t = b.t
  case neg =>
    have hs := sameE_no (a := a) (b := b) (fun q => e2 (by rw [q]))
    have Hs := Lib.hid hs
    have d2 : (a.t != b.t) = true := (by simp [e2])
    clear hs e2
    go_enter Try.func26, Try.ntmps26
    go_wp2_with fail
    go_ret
    exact ⟨by rw [Hs.out]; rfl, Hb2.out⟩
  have d2 : (a.t != b.t) = false := (by simp [e2])
  have E2 := Lib.hid e2
  clear e2
  by_cases e3 : a.c = b.c
  case neg =>
    have hs := sameE_no (a := a) (b := b) (fun q => e3 (by rw [q]))
    have Hs := Lib.hid hs
    have d3 : (a.c != b.c) = true := (by simp [e3])
    clear hs e3
    go_enter Try.func26, Try.ntmps26
    go_wp2_with fail
    go_ret
    exact ⟨by rw [Hs.out]; rfl, Hb2.out⟩
  have d3 : (a.c != b.c) = false := (by simp [e3])
  have E3 := Lib.hid e3
  clear e3
  by_cases e4 : a.til = b.til
  case neg =>
    have hs := sameE_no (a := a) (b := b) (fun q => e4 (by rw [q]))
    have Hs := Lib.hid hs
    have d4 : (a.til != b.til) = true := (by simp [e4])
    clear hs e4
    go_enter Try.func26, Try.ntmps26
    go_wp2_with fail
    go_ret
    exact ⟨by rw [Hs.out]; rfl, Hb2.out⟩
  have d4 : (a.til != b.til) = false := (by simp [e4])
  have E4 := Lib.hid e4
  clear e4
  by_cases e5 : a.rank = b.rank
  case neg =>
    have hs := sameE_no (a := a) (b := b) (fun q => e5 (by rw [q]))
    have Hs := Lib.hid hs
    have d5 : (a.rank != b.rank) = true := (by simp [e5])
    clear hs e5
    go_enter Try.func26, Try.ntmps26
    go_wp2_with fail
    go_ret
    exact ⟨by rw [Hs.out]; rfl, Hb2.out⟩
  have d5 : (a.rank != b.rank) = false := (by simp [e5])
  have E5 := Lib.hid e5
  clear e5
  by_cases e6 : a.epoch = b.epoch
  case neg =>
    have hs := sameE_no (a := a) (b := b) (fun q => e6 (by rw [q]))
    have Hs := Lib.hid hs
    have d6 : (a.epoch != b.epoch) = true := (by simp [e6])
    clear hs e6
    go_enter Try.func26, Try.ntmps26
    go_wp2_with fail
    go_ret
    exact ⟨by rw [Hs.out]; rfl, Hb2.out⟩
  have d6 : (a.epoch != b.epoch) = false := (by simp [e6])
  have E6 := Lib.hid e6
  clear e6
  by_cases e7 : a.source = b.source
  case neg =>
    have hs := sameE_no (a := a) (b := b) (fun q => e7 (by rw [q]))
    have Hs := Lib.hid hs
    have d7 : (a.source != b.source) = true := (by simp [e7])
    clear hs e7
    go_enter Try.func26, Try.ntmps26
    go_wp2_with fail
    go_ret
    exact ⟨by rw [Hs.out]; rfl, Hb2.out⟩
  have d7 : (a.source != b.source) = false := (by simp [e7])
  have E7 := Lib.hid e7
  clear e7
  by_cases e8 : a.recs.length = b.recs.length
  case neg =>
    have hs := sameE_no (a := a) (b := b) (fun q => e8 (by rw [q]))
    have Hs := Lib.hid hs
    have d8 : ((a.recs.length : Int) != (b.recs.length : Int)) = true := (by simp; omega)
    clear hs e8
    go_enter Try.func26, Try.ntmps26
    go_wp2_with fail
    go_ret
    exact ⟨by rw [Hs.out]; rfl, Hb2.out⟩
  have d8 : ((a.recs.length : Int) != (b.recs.length : Int)) = false := (by simp; omega)
  have E8 := Lib.hid e8
  clear e8
  go_enter Try.func26, Try.ntmps26
  go_wp2_with fail
  obtain ⟨W0, hW0⟩ : ∃ W0, W0 = (w.alloc (.cells #[.int .i64 a.kind, .string (bs a.name), .int .u16 a.t, .int .u16 a.c, .slice A a.recs.length capa, .int .i64 a.til, .int .i64 a.rank, .int .i64 a.epoch, .int .i64 a.source] 25)).alloc (.cells #[.int .i64 b.kind, .string (bs b.name), .int .u16 b.t, .int .u16 b.c, .slice B b.recs.length capb, .int .i64 b.til, .int .i64 b.rank, .int .i64 b.epoch, .int .i64 b.source] 25) := ⟨_, rfl⟩
  have hA0 : W0.heap[w.heap.size]? = some (.cells #[.int .i64 a.kind, .string (bs a.name), .int .u16 a.t, .int .u16 a.c, .slice A a.recs.length capa, .int .i64 a.til, .int .i64 a.rank, .int .i64 a.epoch, .int .i64 a.source] 25 (0, 0)) := by
    rw [hW0]; exact (Below.heap_alloc _ _ _ (by simp)).trans (heap_alloc_new w _)
  have hB0 : W0.heap[w.heap.size + 1]? = some (.cells #[.int .i64 b.kind, .string (bs b.name), .int .u16 b.t, .int .u16 b.c, .slice B b.recs.length capb, .int .i64 b.til, .int .i64 b.rank, .int .i64 b.epoch, .int .i64 b.source] 25 (0, 0)) := by
    rw [hW0]
    have := heap_alloc_new (w.alloc (.cells #[.int .i64 a.kind, .string (bs a.name), .int .u16 a.t, .int .u16 a.c, .slice A a.recs.length capa, .int .i64 a.til, .int .i64 a.rank, .int .i64 a.epoch, .int .i64 a.source] 25)) (.cells #[.int .i64 b.kind, .string (bs b.name), .int .u16 b.t, .int .u16 b.c, .slice B b.recs.length capb, .int .i64 b.til, .int .i64 b.rank, .int .i64 b.epoch, .int .i64 b.source] 25)
    rw [World.size_alloc] at this; exact this
  rw [← hW0]
  have hbw : Below w.heap.size w W0 := by have := Hb2.out; rw [← hW0] at this; exact this
  have hs0 : W0.heap.size = w.heap.size + 2 := by rw [hW0]; simp
  have x4 : W0.cell? ⟨w.heap.size, 4, none⟩ = some (.slice A a.recs.length capa) := by simp [World.cell?, hA0]
  have y4 : W0.cell? ⟨w.heap.size + 1, 4, none⟩ = some (.slice B b.recs.length capb) := by simp [World.cell?, hB0]
  have X4 := Lib.hid x4
  have Y4 := Lib.hid y4
  have Hbw := Lib.hid hbw
  clear hA0 hB0 hW0 hbw x4 y4 Hb2 d0 d1 d2 d3 d4 d5 d6 d7 d8 hs0
  go_loopw [5] (fun i_ wr => ∃ k : Nat, i_ = .int .i64 k ∧ k ≤ a.recs.length ∧ (∀ j, j < k → a.recs[j]? = b.recs[j]?) ∧ Below W0.heap.size W0 wr) (fun i_ _ => a.recs.length - (intOf i_).toNat)
  case atStart =>
    exact ⟨0, rfl, Nat.zero_le _, fun j hj => absurd hj (Nat.not_lt_zero _), Below.refl _ _⟩
  case round =>
    obtain ⟨k, rfl, hk, hall, hBw⟩ := hrel
    have x4 := (hBw.cell (blk_of_cell X4.out)).trans X4.out
    have y4 := (hBw.cell (blk_of_cell Y4.out)).trans Y4.out
    have HBw := Lib.hid hBw
    have Hall := Lib.hid hall
    clear hBw hall
    by_cases hlt : k < a.recs.length
    · have hltb : k < b.recs.length := by have := E8.out; omega
      obtain ⟨r, hr⟩ : ∃ r, a.recs[k]? = some r := ⟨_, List.getElem?_eq_getElem hlt⟩
      obtain ⟨q, hq⟩ : ∃ q, b.recs[k]? = some q := ⟨_, List.getElem?_eq_getElem hltb⟩
      obtain ⟨ba, offa, hAe, hca2⟩ : ∃ b off, A = some ⟨b, off, none⟩ ∧ ∀ i r, a.recs[i]? = some r → ∀ j u, r.cells[j]? = some u → w.cell? ⟨b, off + i * 5 + j, none⟩ = some u := by
        rcases HA.out with h | h
        · rw [h] at hlt; exact absurd hlt (Nat.not_lt_zero _)
        · exact h
      obtain ⟨bb, offb, hBe, hcb2⟩ : ∃ c off, B = some ⟨c, off, none⟩ ∧ ∀ i r, b.recs[i]? = some r → ∀ j u, r.cells[j]? = some u → w.cell? ⟨c, off + i * 5 + j, none⟩ = some u := by
        rcases HB.out with h | h
        · rw [h] at hltb; exact absurd hltb (Nat.not_lt_zero _)
        · exact h
      subst hAe
      subst hBe
      have up : ∀ p u, w.cell? p = some u → wr.cell? p = some u := fun p u h1 => by
        have h2 := (Hbw.out.cell (blk_of_cell h1)).trans h1
        exact (HBw.out.cell (blk_of_cell h2)).trans h2
      have q0 : wr.cell? ⟨ba, offa + k * 5, none⟩ = some (.string (bs r.name)) := up _ _ (hca2 k r hr 0 _ rfl)
      have q1 : wr.cell? ⟨ba, offa + k * 5 + 1, none⟩ = some (.int .u16 r.t) := up _ _ (hca2 k r hr 1 _ rfl)
      have q2 : wr.cell? ⟨ba, offa + k * 5 + 2, none⟩ = some (.int .u16 r.c) := up _ _ (hca2 k r hr 2 _ rfl)
      have q3 : wr.cell? ⟨ba, offa + k * 5 + 3, none⟩ = some (.int .u32 r.ttl) := up _ _ (hca2 k r hr 3 _ rfl)
      have q4 : wr.cell? ⟨ba, offa + k * 5 + 4, none⟩ = some (.string (bs r.data)) := up _ _ (hca2 k r hr 4 _ rfl)
      have p0 : wr.cell? ⟨bb, offb + k * 5, none⟩ = some (.string (bs q.name)) := up _ _ (hcb2 k q hq 0 _ rfl)
      have p1 : wr.cell? ⟨bb, offb + k * 5 + 1, none⟩ = some (.int .u16 q.t) := up _ _ (hcb2 k q hq 1 _ rfl)
      have p2 : wr.cell? ⟨bb, offb + k * 5 + 2, none⟩ = some (.int .u16 q.c) := up _ _ (hcb2 k q hq 2 _ rfl)
      have p3 : wr.cell? ⟨bb, offb + k * 5 + 3, none⟩ = some (.int .u32 q.ttl) := up _ _ (hcb2 k q hq 3 _ rfl)
      have p4 : wr.cell? ⟨bb, offb + k * 5 + 4, none⟩ = some (.string (bs q.data)) := up _ _ (hcb2 k q hq 4 _ rfl)
      have dk : decide ((k : Int) < (a.recs.length : Int)) = true := decide_eq_true (by omega)
      have dk2 : (k : Int) < (b.recs.length : Int) := by omega
      have dk3 : (k : Int) < (a.recs.length : Int) := by omega
      have hneq := fun W => neq_rr r q W
      unfold RRec.val at hneq
      have heg : Try.prog.eqGuardType Try.prog.depth 56 = false := by kernel_rfl
      have Hr := Lib.hid hr
      have Hq := Lib.hid hq
      obtain ⟨sm, hsm⟩ : ∃ sm, sm = sameR r q := ⟨_, rfl⟩
      rw [← hsm] at hneq
      have Hsm := Lib.hid hsm
      clear hca2 hcb2 up hr hq hsm
      go_upto_region 6 with fail
      go_cut [86] (fun v wx => Below wr.heap.size wr wx ∧ v = .bool (!sm))
      case first =>
        go_quiet (fail)
        all_goals (go_wp2_with fail; go_meet; exact ⟨bel_drewN wr _, rfl⟩)
      case rest =>
        obtain ⟨hb, rfl⟩ := hcut
        have HB2 := Lib.hid (HBw.out.trans (hb.mono HBw.out.size))
        clear hb q0 q1 q2 q3 q4 p0 p1 p2 p3 p4 x4 y4 hneq heg
        cases sm with
        | true =>
          have heq : r = q := sameR_iff.1 Hsm.out.symm
          have hall2 : ∀ j, j < k + 1 → a.recs[j]? = b.recs[j]? := by
            intro j hj
            by_cases e : j = k
            · rw [e, Hr.out, Hq.out, heq]
            · exact Hall.out j (by omega)
          have Hall2 := Lib.hid hall2
          clear heq hall2
          go_wp2_with fail
          go_roundw
          case rel => exact ⟨k + 1, rfl, by omega, Hall2.out, HB2.out⟩
          case measure => simp [intOf]; omega
        | false =>
          have hne : a ≠ b := fun e => by
            have h1 := Hr.out
            rw [e, Hq.out] at h1
            have h2 := sameR_iff.2 (Option.some.inj h1).symm
            rw [← Hsm.out] at h2; cases h2
          have Hne := Lib.hid (sameE_no hne)
          clear hne
          go_wp2_with fail
          go_ret
          exact ⟨by rw [Hne.out]; rfl, Hbw.out.trans (HB2.out.mono Hbw.out.size)⟩
    · have hke : k = a.recs.length := by omega
      have heq : a = b := by
        have hrec : a.recs = b.recs := by
          apply List.ext_getElem?
          intro j
          by_cases hj : j < k
          · exact Hall.out j hj
          · rw [List.getElem?_eq_none (by omega), List.getElem?_eq_none (by have := E8.out; omega)]
        have h0 := E0.out
        have h1 := E1.out
        have h2 := E2.out
        have h3 := E3.out
        have h4 := E4.out
        have h5 := E5.out
        have h6 := E6.out
        have h7 := E7.out
        cases a; cases b
        simp_all
      have Hs := Lib.hid (sameE_iff.2 heq)
      have dk : decide ((k : Int) < (a.recs.length : Int)) = false := decide_eq_false (by omega)
      clear heq hke
      go_wp2_with fail
      go_ret
      exact ⟨by rw [Hs.out]; rfl, Hbw.out.trans (HBw.out.mono Hbw.out.size)⟩
end Go.Proofs.Ytihfapnipifiiaa
