/- The walks of package cache: within, Check's closures, Check. The walk of cache.Check. The walks of cache.Key, New. -/
import Derived.Test.YtihfapnipifiiaaRef5
import Derived.Test.YtihfapnipifiiaaKey
set_option linter.unusedVariables false
set_option linter.unusedSimpArgs false
/- The walks of package cache: within, Check's closures, Check. -/
namespace Go.Proofs.Ytihfapnipifiiaa
open Go Go.RowKit Go.Shelf

def within (a b c : Int) : Bool := decide (b ≤ a) && decide (a ≤ c)
theorem within_any (a b c : Int) (w : World) :
    Calls Try.prog 47 #[.int .i64 a, .int .i64 b, .int .i64 c] w fun e w' => e = .returned (.bool (within a b c)) ∧ w = w' := by
  by_cases h : b ≤ a
  · go_enter Try.func47, Try.ntmps47
    go_wp2
    go_ret
    exact ⟨by unfold within; rw [decide_eq_true h]; rfl, rfl⟩
  · go_enter Try.func47, Try.ntmps47
    go_wp2
    go_ret
    exact ⟨by unfold within; rw [decide_eq_false (by omega)]; rfl, rfl⟩

theorem may1_any (r : RRec) (w : World) :
    Calls Try.prog 49 #[r.val] w fun e w' => e = .returned (.bool (decide (r.t = 6))) ∧ Below w.heap.size w w' := by
  unfold RRec.val
  go_enter Try.func49, Try.ntmps49
  go_wp2
  go_ret
  refine ⟨?_, (Below.refl _ w).alloc (Nat.le_refl _) _⟩
  show Ending.returned (.bool (r.t == 6)) = _
  congr 2

set_option maxRecDepth 100000 in
theorem may2_any (r : RRec) (eb : Nat) (et : Int) (en : List UInt8) (w : World) (h1 : w.cell? ⟨eb, 1, none⟩ = some (.string (bs en))) (h2 : w.cell? ⟨eb, 2, none⟩ = some (.int .u16 et)) (hn : r.name.length ≤ 1048576) (hm : en.length ≤ 1048576) :
    Calls Try.prog 50 #[r.val, .pointer (some ⟨eb, 0, none⟩)] w fun e w' => e = .returned (.bool (decide (r.t = et) && sameN r.name en)) ∧ Below w.heap.size w w' := by
  have hlt := blk_of_cell h1
  dsimp only at hlt
  unfold RRec.val
  by_cases h : r.t = et
  · have hb : (r.t == et) = true := beq_iff_eq.2 h
    have H := Lib.hid h
    clear h
    go_enter Try.func50, Try.ntmps50
    go_wp2_with fail
    refine (same_any (bs r.name) (bs en) _ (by rw [bs_size]; omega) (by rw [bs_size]; omega)).mono ?_
    rw [lst_bs, lst_bs]
    rintro e w1 ⟨rfl, h3⟩
    go_wp2
    go_ret
    exact ⟨by rw [decide_eq_true H.out]; rfl, ((Below.refl _ w).alloc (Nat.le_refl _) _).trans (h3.mono (by simp))⟩
  · have hb : (r.t == et) = false := beq_eq_false_iff_ne.2 h
    have H := Lib.hid h
    clear h
    go_enter Try.func50, Try.ntmps50
    go_wp2
    go_ret
    exact ⟨by rw [decide_eq_false H.out]; rfl, (Below.refl _ w).alloc (Nat.le_refl _) _⟩

/-- What may be said of an entry's own fields. -/
def headOk (e : Ent) : Bool := within e.kind 1 3 && decide (chk e.name = 0) && within e.til 0 1125899906842624 && within e.rank 1 4 && within e.epoch 0 1099511627776
def mayR (e : Ent) (r : RRec) : Bool := if e.kind = 1 then decide (r.t = e.t) && sameN r.name e.name else decide (r.t = 6)
def recOk (e : Ent) (r : RRec) : Bool := decide (r.c = e.c) && mayR e r && decide (rchk r.name r.t r.data = 0)
def lenOk (e : Ent) : Bool := (if e.kind = 1 then within e.recs.length 1 64 else within e.recs.length 0 1) && !(decide (e.kind = 3) && decide (e.t ≠ 0))
/-- What Check answers. -/
def cchk (e : Ent) : Int := if headOk e && lenOk e && e.recs.all (recOk e) then 0 else 1
end Go.Proofs.Ytihfapnipifiiaa
/- The walk of cache.Check. -/
namespace Go.Proofs.Ytihfapnipifiiaa
open Go Go.RowKit Go.Shelf

def Ent.val (e : Ent) (rv : Value) : Value := .agg #[.int .i64 e.kind, .string (bs e.name), .int .u16 e.t, .int .u16 e.c, rv, .int .i64 e.til, .int .i64 e.rank, .int .i64 e.epoch, .int .i64 e.source]
/-- An entry that is small enough. -/
structure EntIn (e : Ent) : Prop where
  name : e.name.length ≤ 1048576
  recs : ∀ r ∈ e.recs, r.ok ∧ r.name.length ≤ 1048576 ∧ r.data.length ≤ 1048576
  t0 : 0 ≤ e.t
  t1 : e.t ≤ 65535
  c0 : 0 ≤ e.c
  c1 : e.c ≤ 65535

set_option maxRecDepth 100000 in
set_option maxHeartbeats 4000000 in
theorem ccheck_any (e : Ent) (rv : Value) (w : World) (he : EntIn e) (hrv : RecsAt w rv e.recs) :
    Calls Try.prog 16 #[e.val rv] w fun r w' => r = .returned (.int .i64 (cchk e)) ∧ Below w.heap.size w w' := by
  obtain ⟨hnm, hrecs, t0, t1, c0, c1⟩ := he
  obtain ⟨A, cap, rfl, hcap, hcells⟩ := hrv
  unfold Ent.val
  -- what is wrong with its own fields
  have wrong : headOk e = false → Ending.returned (.int .i64 1) = .returned (.int .i64 (cchk e)) := by
    intro h; unfold cchk; rw [h]; rfl
  have Wrong := Lib.hid wrong
  clear wrong
  go_enter Try.func16, Try.ntmps16
  go_wp2_with fail
  refine (within_any _ _ _ _).mono ?_
  rintro r w' ⟨rfl, rfl⟩
  have HW : Hid (Below w.heap.size w (w.alloc (.cells #[.int .i64 e.kind, .string (bs e.name), .int .u16 e.t, .int .u16 e.c, .slice A e.recs.length cap, .int .i64 e.til, .int .i64 e.rank, .int .i64 e.epoch, .int .i64 e.source] 25))) := Lib.hid ((Below.refl _ w).alloc (Nat.le_refl _) _)
  cases b1 : within e.kind 1 3 with
  | false =>
    have B1 := Lib.hid b1
    clear b1
    go_wp2
    go_ret
    exact ⟨Wrong.out (by unfold headOk; rw [B1.out]; rfl), HW.out⟩
  | true =>
    have B1 := Lib.hid b1
    clear b1
    go_wp2_with fail
    refine (check_any (bs e.name) _ (by rw [bs_size]; omega)).mono ?_
    rw [lst_bs]
    rintro r w2 ⟨rfl, h2⟩
    have hcl2 := (bcell h2).1
    have HW2 : Hid (Below w.heap.size w w2) := Lib.hid (HW.out.trans (h2.mono (by simp)))
    have hz2 := h2.size
    simp only [World.size_alloc] at hz2
    have Hrv : Hid (e.recs = [] ∨ ∃ b off, A = some ⟨b, off, none⟩ ∧ ∀ i r, e.recs[i]? = some r → ∀ j u, r.cells[j]? = some u → w2.cell? ⟨b, off + i * 5 + j, none⟩ = some u) := Lib.hid (by
      rcases hcells with h | ⟨b, off, ha, hc⟩
      · exact .inl h
      · exact .inr ⟨b, off, ha, fun i r hi j u hj => (HW2.out.cell (blk_of_cell (hc i r hi j u hj))).trans (hc i r hi j u hj)⟩)
    have r0 : w2.cell? ⟨w.heap.size, 0, none⟩ = some (.int .i64 e.kind) := (h2.cell (by simp)).trans (by go_simp)
    have r1 : w2.cell? ⟨w.heap.size, 1, none⟩ = some (.string (bs e.name)) := (h2.cell (by simp)).trans (by go_simp)
    have r2 : w2.cell? ⟨w.heap.size, 2, none⟩ = some (.int .u16 e.t) := (h2.cell (by simp)).trans (by go_simp)
    have r3 : w2.cell? ⟨w.heap.size, 3, none⟩ = some (.int .u16 e.c) := (h2.cell (by simp)).trans (by go_simp)
    have r4 : w2.cell? ⟨w.heap.size, 4, none⟩ = some (.slice A e.recs.length cap) := (h2.cell (by simp)).trans (by go_simp)
    have r5 : w2.cell? ⟨w.heap.size, 5, none⟩ = some (.int .i64 e.til) := (h2.cell (by simp)).trans (by go_simp)
    have r6 : w2.cell? ⟨w.heap.size, 6, none⟩ = some (.int .i64 e.rank) := (h2.cell (by simp)).trans (by go_simp)
    have r7 : w2.cell? ⟨w.heap.size, 7, none⟩ = some (.int .i64 e.epoch) := (h2.cell (by simp)).trans (by go_simp)
    clear hcells h2 hcl2
    by_cases hc : chk e.name = 0
    · have b2 : ((chk e.name : Int) != 0) = false := by rw [hc]; rfl
      have B2 := Lib.hid hc
      clear hc
      go_wp2_with fail
      refine (within_any _ _ _ _).mono ?_
      rintro r w' ⟨rfl, rfl⟩
      cases b3 : within e.til 0 1125899906842624 with
      | false =>
        have B3 := Lib.hid b3
        clear b3
        go_wp2
        go_ret
        exact ⟨Wrong.out (by unfold headOk; rw [B3.out]; simp), HW2.out⟩
      | true =>
        have B3 := Lib.hid b3
        clear b3
        go_wp2_with fail
        refine (within_any _ _ _ _).mono ?_
        rintro r w' ⟨rfl, rfl⟩
        cases b4 : within e.rank 1 4 with
        | false =>
          have B4 := Lib.hid b4
          clear b4
          go_wp2
          go_ret
          exact ⟨Wrong.out (by unfold headOk; rw [B4.out]; simp), HW2.out⟩
        | true =>
          have B4 := Lib.hid b4
          clear b4
          go_wp2_with fail
          refine (within_any _ _ _ _).mono ?_
          rintro r w' ⟨rfl, rfl⟩
          cases b5 : within e.epoch 0 1099511627776 with
          | false =>
            have B5 := Lib.hid b5
            clear b5
            go_wp2
            go_ret
            exact ⟨Wrong.out (by unfold headOk; rw [B5.out]; simp), HW2.out⟩
          | true =>
            have Hhead : Hid (headOk e = true) := Lib.hid (by unfold headOk; rw [B1.out, B3.out, B4.out, b5, decide_eq_true B2.out]; rfl)
            clear b5
            by_cases hk : e.kind = 1
            · have b6 : (e.kind == (1 : Int)) = true := beq_iff_eq.2 hk
              have HK := Lib.hid hk
              clear hk
              go_wp2_with fail
              refine (within_any _ _ _ _).mono ?_
              rintro r w' ⟨rfl, rfl⟩
              cases b7 : within e.recs.length 1 64 with
              | false =>
                have B7 := Lib.hid b7
                clear b7
                go_wp2
                go_ret
                refine ⟨?_, HW2.out⟩
                unfold cchk lenOk
                rw [if_pos HK.out, B7.out, Hhead.out]; rfl
              | true =>
                have hl64 : e.recs.length ≤ 64 := by have h := b7; unfold within at h; rw [Bool.and_eq_true] at h; have := of_decide_eq_true h.2; omega
                have b8 : (e.kind == (3 : Int)) = false := by rw [HK.out]; rfl
                have Hlen : Hid (lenOk e = true) := Lib.hid (by unfold lenOk; rw [if_pos HK.out, b7, decide_eq_false (by have := HK.out; omega)]; rfl)
                clear b7

                go_wp2
                go_loopw [60] (fun k_ wr => ∃ k : Nat, k_ = .int .i64 k ∧ k ≤ e.recs.length ∧ (e.recs.take k).all (recOk e) = true ∧ Below w2.heap.size w2 wr) (fun k_ _ => e.recs.length - (intOf k_).toNat)
                case atStart => exact ⟨0, rfl, Nat.zero_le _, by simp, Below.refl _ _⟩
                case round =>
                  obtain ⟨k, rfl, hk, hall, hB⟩ := hrel
                  have Hall := Lib.hid hall
                  clear hall
                  have HB := Lib.hid hB
                  have hzr := hB.size
                  have hcl := (bcell hB).1
                  clear hB
                  by_cases hlt : k < e.recs.length
                  · obtain ⟨r, hr⟩ : ∃ r, e.recs[k]? = some r := ⟨_, List.getElem?_eq_getElem hlt⟩
                    obtain ⟨hro, hrn, hrd⟩ := hrecs r (List.mem_of_getElem? hr)
                    obtain ⟨b, off, rfl, hcells⟩ : ∃ b off, A = some ⟨b, off, none⟩ ∧ ∀ i r, e.recs[i]? = some r → ∀ j u, r.cells[j]? = some u → w2.cell? ⟨b, off + i * 5 + j, none⟩ = some u := by
                      rcases Hrv.out with h | h
                      · rw [h] at hlt; simp at hlt
                      · exact h
                    have q0 : w2.cell? ⟨b, off + k * 5, none⟩ = some (.string (bs r.name)) := hcells k r hr 0 _ rfl
                    have q1 : w2.cell? ⟨b, off + k * 5 + 1, none⟩ = some (.int .u16 r.t) := hcells k r hr 1 _ rfl
                    have q2 : w2.cell? ⟨b, off + k * 5 + 2, none⟩ = some (.int .u16 r.c) := hcells k r hr 2 _ rfl
                    have q3 : w2.cell? ⟨b, off + k * 5 + 3, none⟩ = some (.int .u32 r.ttl) := hcells k r hr 3 _ rfl
                    have q4 : w2.cell? ⟨b, off + k * 5 + 4, none⟩ = some (.string (bs r.data)) := hcells k r hr 4 _ rfl
                    have p0 := (HB.out.cell (blk_of_cell q0)).trans q0
                    have p1 := (HB.out.cell (blk_of_cell q1)).trans q1
                    have p2 := (HB.out.cell (blk_of_cell q2)).trans q2
                    have p3 := (HB.out.cell (blk_of_cell q3)).trans q3
                    have p4 := (HB.out.cell (blk_of_cell q4)).trans q4
                    have x1 := (HB.out.cell (blk_of_cell r1)).trans r1
                    have x2 := (HB.out.cell (blk_of_cell r2)).trans r2
                    have x3 := (HB.out.cell (blk_of_cell r3)).trans r3
                    have x4 := (HB.out.cell (blk_of_cell r4)).trans r4
                    have hlt9 : w.heap.size < wr.heap.size := by omega
                    have hne9 : w.heap.size ≠ wr.heap.size := by omega
                    have Hr := Lib.hid hr
                    clear hcells q0 q1 q2 q3 q4 hr
                    have bad : recOk e r = false → ∀ W, Below w2.heap.size w2 W → Ending.returned (.int .i64 1) = .returned (.int .i64 (cchk e)) ∧ Below w.heap.size w W := by
                      intro hf W hW
                      refine ⟨?_, HW2.out.trans (hW.mono HW2.out.size)⟩
                      unfold cchk
                      rw [if_neg]
                      intro h
                      simp only [Bool.and_eq_true, List.all_eq_true] at h
                      rw [h.2 r (List.mem_of_getElem? Hr.out)] at hf; cases hf
                    have Bad := Lib.hid bad
                    clear bad
                    by_cases c1 : r.c = e.c
                    · have d1 : ((r.c : Int) != e.c) = false := by rw [c1]; simp
                      have C1 := Lib.hid c1
                      clear c1
                      go_wp2_with fail
                      refine (may2_any r w.heap.size e.t e.name _ ((World.cell?_alloc_past _ _ _ hlt9).trans x1) ((World.cell?_alloc_past _ _ _ hlt9).trans x2) hrn hnm).mono ?_
                      rintro v w4 ⟨rfl, h4⟩
                      cases m1 : (decide (r.t = e.t) && sameN r.name e.name) with
                      | false =>
                        have M1 := Lib.hid m1
                        clear m1
                        go_wp2
                        go_ret
                        exact Bad.out (by unfold recOk mayR; rw [if_pos HK.out]; rw [M1.out]; simp) _ ((bel_alloc HB.out _).trans (h4.mono (by simp; omega)))
                      | true =>
                        have M1 := Lib.hid m1
                        clear m1
                        have y0 : w4.cell? ⟨wr.heap.size, 0, none⟩ = some (.string (bs r.name)) := (h4.cell (by simp)).trans (by go_simp)
                        have y1 : w4.cell? ⟨wr.heap.size, 1, none⟩ = some (.int .u16 r.t) := (h4.cell (by simp)).trans (by go_simp)
                        have y2 : w4.cell? ⟨wr.heap.size, 2, none⟩ = some (.int .u16 r.c) := (h4.cell (by simp)).trans (by go_simp)
                        have y3 : w4.cell? ⟨wr.heap.size, 3, none⟩ = some (.int .u32 r.ttl) := (h4.cell (by simp)).trans (by go_simp)
                        have y4 : w4.cell? ⟨wr.heap.size, 4, none⟩ = some (.string (bs r.data)) := (h4.cell (by simp)).trans (by go_simp)
                        have HB4 : Hid (Below w2.heap.size w2 w4) := Lib.hid ((bel_alloc HB.out _).trans (h4.mono (by simp; omega)))
                        go_wp2_with fail
                        refine (reccheck_any r _ hro hrn hrd).mono ?_
                        rintro v w5 ⟨rfl, h5⟩
                        have HB5 : Hid (Below w2.heap.size w2 w5) := Lib.hid (HB4.out.trans (h5.mono HB4.out.size))
                        have hz5 := h5.size
                        by_cases c2 : rchk r.name r.t r.data = 0
                        · have d2 : ((rchk r.name r.t r.data : Int) != 0) = false := by rw [c2]; rfl
                          have C2 := Lib.hid c2
                          clear c2
                          go_wp2
                          refine ⟨⟨k + 1, ?_, by omega, ?_, HB5.out⟩, ?_⟩
                          · rfl
                          · rw [List.take_add_one, List.all_append, Hall.out, Hr.out]
                            show recOk e r && true = true
                            unfold recOk mayR
                            rw [if_pos HK.out]
                            rw [decide_eq_true C1.out, M1.out, decide_eq_true C2.out]; rfl
                          · (simp [intOf]; omega)
                        · have d2 : ((rchk r.name r.t r.data : Int) != 0) = true := by rw [bne_iff_ne]; exact c2
                          have C2 := Lib.hid c2
                          clear c2
                          go_wp2
                          go_ret
                          exact Bad.out (by unfold recOk; rw [decide_eq_false C2.out]; simp) _ HB5.out
                    · have d1 : ((r.c : Int) != e.c) = true := by rw [bne_iff_ne]; exact c1
                      have C1 := Lib.hid c1
                      clear c1
                      go_wp2
                      go_ret
                      exact Bad.out (by unfold recOk; rw [decide_eq_false C1.out]; rfl) _ (bel_alloc HB.out _)
                  · have hke : k = e.recs.length := by omega
                    go_wp2
                    go_ret
                    refine ⟨?_, HW2.out.trans (HB.out.mono HW2.out.size)⟩
                    unfold cchk
                    rw [if_pos]; · rfl
                    rw [Hhead.out, Hlen.out]
                    have := Hall.out
                    rw [hke, List.take_length] at this
                    rw [this]; rfl

            · have b6 : (e.kind == (1 : Int)) = false := beq_eq_false_iff_ne.2 hk
              have HK := Lib.hid hk
              clear hk
              go_wp2_with fail
              refine (within_any _ _ _ _).mono ?_
              rintro r w' ⟨rfl, rfl⟩
              cases b7 : within e.recs.length 0 1 with
              | false =>
                have B7 := Lib.hid b7
                clear b7
                go_wp2
                go_ret
                refine ⟨?_, HW2.out⟩
                unfold cchk lenOk
                rw [if_neg HK.out, B7.out, Hhead.out]; rfl
              | true =>
                have hl64 : e.recs.length ≤ 64 := by have h := b7; unfold within at h; rw [Bool.and_eq_true] at h; have := of_decide_eq_true h.2; omega
                by_cases h3 : e.kind = 3 ∧ e.t ≠ 0
                · have b8 : (e.kind == (3 : Int)) = true := beq_iff_eq.2 h3.1
                  have b9 : (e.t != (0 : Int)) = true := by rw [bne_iff_ne]; exact h3.2
                  have H3 := Lib.hid h3
                  clear h3 b7
                  go_wp2
                  go_ret
                  refine ⟨?_, HW2.out⟩
                  unfold cchk lenOk
                  rw [decide_eq_true H3.out.1, decide_eq_true H3.out.2]; simp
                · have HT : Hid ((!(decide (e.kind = 3) && decide (e.t ≠ 0))) = true) := Lib.hid (by rw [← Bool.decide_and, decide_eq_false h3]; rfl)
                  have Hlen : Hid (lenOk e = true) := Lib.hid (by unfold lenOk; rw [if_neg HK.out, b7, HT.out]; rfl)
                  clear b7
                  have H3 := Lib.hid h3
                  clear h3
                  by_cases h4 : e.kind = 3
                  · have b8 : (e.kind == (3 : Int)) = true := beq_iff_eq.2 h4
                    have b9 : (e.t != (0 : Int)) = false := by have := H3.out; rw [bne_eq_false_iff_eq]; omega
                    have H4 := Lib.hid h4
                    clear h4

                    go_wp2
                    go_loopw [60] (fun k_ wr => ∃ k : Nat, k_ = .int .i64 k ∧ k ≤ e.recs.length ∧ (e.recs.take k).all (recOk e) = true ∧ Below w2.heap.size w2 wr) (fun k_ _ => e.recs.length - (intOf k_).toNat)
                    case atStart => exact ⟨0, rfl, Nat.zero_le _, by simp, Below.refl _ _⟩
                    case round =>
                      obtain ⟨k, rfl, hk, hall, hB⟩ := hrel
                      have Hall := Lib.hid hall
                      clear hall
                      have HB := Lib.hid hB
                      have hzr := hB.size
                      have hcl := (bcell hB).1
                      clear hB
                      by_cases hlt : k < e.recs.length
                      · obtain ⟨r, hr⟩ : ∃ r, e.recs[k]? = some r := ⟨_, List.getElem?_eq_getElem hlt⟩
                        obtain ⟨hro, hrn, hrd⟩ := hrecs r (List.mem_of_getElem? hr)
                        obtain ⟨b, off, rfl, hcells⟩ : ∃ b off, A = some ⟨b, off, none⟩ ∧ ∀ i r, e.recs[i]? = some r → ∀ j u, r.cells[j]? = some u → w2.cell? ⟨b, off + i * 5 + j, none⟩ = some u := by
                          rcases Hrv.out with h | h
                          · rw [h] at hlt; simp at hlt
                          · exact h
                        have q0 : w2.cell? ⟨b, off + k * 5, none⟩ = some (.string (bs r.name)) := hcells k r hr 0 _ rfl
                        have q1 : w2.cell? ⟨b, off + k * 5 + 1, none⟩ = some (.int .u16 r.t) := hcells k r hr 1 _ rfl
                        have q2 : w2.cell? ⟨b, off + k * 5 + 2, none⟩ = some (.int .u16 r.c) := hcells k r hr 2 _ rfl
                        have q3 : w2.cell? ⟨b, off + k * 5 + 3, none⟩ = some (.int .u32 r.ttl) := hcells k r hr 3 _ rfl
                        have q4 : w2.cell? ⟨b, off + k * 5 + 4, none⟩ = some (.string (bs r.data)) := hcells k r hr 4 _ rfl
                        have p0 := (HB.out.cell (blk_of_cell q0)).trans q0
                        have p1 := (HB.out.cell (blk_of_cell q1)).trans q1
                        have p2 := (HB.out.cell (blk_of_cell q2)).trans q2
                        have p3 := (HB.out.cell (blk_of_cell q3)).trans q3
                        have p4 := (HB.out.cell (blk_of_cell q4)).trans q4
                        have x1 := (HB.out.cell (blk_of_cell r1)).trans r1
                        have x2 := (HB.out.cell (blk_of_cell r2)).trans r2
                        have x3 := (HB.out.cell (blk_of_cell r3)).trans r3
                        have x4 := (HB.out.cell (blk_of_cell r4)).trans r4
                        have hlt9 : w.heap.size < wr.heap.size := by omega
                        have hne9 : w.heap.size ≠ wr.heap.size := by omega
                        have Hr := Lib.hid hr
                        clear hcells q0 q1 q2 q3 q4 hr
                        have bad : recOk e r = false → ∀ W, Below w2.heap.size w2 W → Ending.returned (.int .i64 1) = .returned (.int .i64 (cchk e)) ∧ Below w.heap.size w W := by
                          intro hf W hW
                          refine ⟨?_, HW2.out.trans (hW.mono HW2.out.size)⟩
                          unfold cchk
                          rw [if_neg]
                          intro h
                          simp only [Bool.and_eq_true, List.all_eq_true] at h
                          rw [h.2 r (List.mem_of_getElem? Hr.out)] at hf; cases hf
                        have Bad := Lib.hid bad
                        clear bad
                        by_cases c1 : r.c = e.c
                        · have d1 : ((r.c : Int) != e.c) = false := by rw [c1]; simp
                          have C1 := Lib.hid c1
                          clear c1
                          go_wp2_with fail
                          refine (may1_any r _).mono ?_
                          rintro v w4 ⟨rfl, h4⟩
                          cases m1 : decide (r.t = 6) with
                          | false =>
                            have M1 := Lib.hid m1
                            clear m1
                            go_wp2
                            go_ret
                            exact Bad.out (by unfold recOk mayR; rw [if_neg HK.out]; rw [M1.out]; simp) _ ((bel_alloc HB.out _).trans (h4.mono (by simp; omega)))
                          | true =>
                            have M1 := Lib.hid m1
                            clear m1
                            have y0 : w4.cell? ⟨wr.heap.size, 0, none⟩ = some (.string (bs r.name)) := (h4.cell (by simp)).trans (by go_simp)
                            have y1 : w4.cell? ⟨wr.heap.size, 1, none⟩ = some (.int .u16 r.t) := (h4.cell (by simp)).trans (by go_simp)
                            have y2 : w4.cell? ⟨wr.heap.size, 2, none⟩ = some (.int .u16 r.c) := (h4.cell (by simp)).trans (by go_simp)
                            have y3 : w4.cell? ⟨wr.heap.size, 3, none⟩ = some (.int .u32 r.ttl) := (h4.cell (by simp)).trans (by go_simp)
                            have y4 : w4.cell? ⟨wr.heap.size, 4, none⟩ = some (.string (bs r.data)) := (h4.cell (by simp)).trans (by go_simp)
                            have HB4 : Hid (Below w2.heap.size w2 w4) := Lib.hid ((bel_alloc HB.out _).trans (h4.mono (by simp; omega)))
                            go_wp2_with fail
                            refine (reccheck_any r _ hro hrn hrd).mono ?_
                            rintro v w5 ⟨rfl, h5⟩
                            have HB5 : Hid (Below w2.heap.size w2 w5) := Lib.hid (HB4.out.trans (h5.mono HB4.out.size))
                            have hz5 := h5.size
                            by_cases c2 : rchk r.name r.t r.data = 0
                            · have d2 : ((rchk r.name r.t r.data : Int) != 0) = false := by rw [c2]; rfl
                              have C2 := Lib.hid c2
                              clear c2
                              go_wp2
                              refine ⟨⟨k + 1, ?_, by omega, ?_, HB5.out⟩, ?_⟩
                              · rfl
                              · rw [List.take_add_one, List.all_append, Hall.out, Hr.out]
                                show recOk e r && true = true
                                unfold recOk mayR
                                rw [if_neg HK.out]
                                rw [decide_eq_true C1.out, M1.out, decide_eq_true C2.out]; rfl
                              · (simp [intOf]; omega)
                            · have d2 : ((rchk r.name r.t r.data : Int) != 0) = true := by rw [bne_iff_ne]; exact c2
                              have C2 := Lib.hid c2
                              clear c2
                              go_wp2
                              go_ret
                              exact Bad.out (by unfold recOk; rw [decide_eq_false C2.out]; simp) _ HB5.out
                        · have d1 : ((r.c : Int) != e.c) = true := by rw [bne_iff_ne]; exact c1
                          have C1 := Lib.hid c1
                          clear c1
                          go_wp2
                          go_ret
                          exact Bad.out (by unfold recOk; rw [decide_eq_false C1.out]; rfl) _ (bel_alloc HB.out _)
                      · have hke : k = e.recs.length := by omega
                        go_wp2
                        go_ret
                        refine ⟨?_, HW2.out.trans (HB.out.mono HW2.out.size)⟩
                        unfold cchk
                        rw [if_pos]; · rfl
                        rw [Hhead.out, Hlen.out]
                        have := Hall.out
                        rw [hke, List.take_length] at this
                        rw [this]; rfl

                  · have b8 : (e.kind == (3 : Int)) = false := beq_eq_false_iff_ne.2 h4
                    have H4 := Lib.hid h4
                    clear h4

                    go_wp2
                    go_loopw [60] (fun k_ wr => ∃ k : Nat, k_ = .int .i64 k ∧ k ≤ e.recs.length ∧ (e.recs.take k).all (recOk e) = true ∧ Below w2.heap.size w2 wr) (fun k_ _ => e.recs.length - (intOf k_).toNat)
                    case atStart => exact ⟨0, rfl, Nat.zero_le _, by simp, Below.refl _ _⟩
                    case round =>
                      obtain ⟨k, rfl, hk, hall, hB⟩ := hrel
                      have Hall := Lib.hid hall
                      clear hall
                      have HB := Lib.hid hB
                      have hzr := hB.size
                      have hcl := (bcell hB).1
                      clear hB
                      by_cases hlt : k < e.recs.length
                      · obtain ⟨r, hr⟩ : ∃ r, e.recs[k]? = some r := ⟨_, List.getElem?_eq_getElem hlt⟩
                        obtain ⟨hro, hrn, hrd⟩ := hrecs r (List.mem_of_getElem? hr)
                        obtain ⟨b, off, rfl, hcells⟩ : ∃ b off, A = some ⟨b, off, none⟩ ∧ ∀ i r, e.recs[i]? = some r → ∀ j u, r.cells[j]? = some u → w2.cell? ⟨b, off + i * 5 + j, none⟩ = some u := by
                          rcases Hrv.out with h | h
                          · rw [h] at hlt; simp at hlt
                          · exact h
                        have q0 : w2.cell? ⟨b, off + k * 5, none⟩ = some (.string (bs r.name)) := hcells k r hr 0 _ rfl
                        have q1 : w2.cell? ⟨b, off + k * 5 + 1, none⟩ = some (.int .u16 r.t) := hcells k r hr 1 _ rfl
                        have q2 : w2.cell? ⟨b, off + k * 5 + 2, none⟩ = some (.int .u16 r.c) := hcells k r hr 2 _ rfl
                        have q3 : w2.cell? ⟨b, off + k * 5 + 3, none⟩ = some (.int .u32 r.ttl) := hcells k r hr 3 _ rfl
                        have q4 : w2.cell? ⟨b, off + k * 5 + 4, none⟩ = some (.string (bs r.data)) := hcells k r hr 4 _ rfl
                        have p0 := (HB.out.cell (blk_of_cell q0)).trans q0
                        have p1 := (HB.out.cell (blk_of_cell q1)).trans q1
                        have p2 := (HB.out.cell (blk_of_cell q2)).trans q2
                        have p3 := (HB.out.cell (blk_of_cell q3)).trans q3
                        have p4 := (HB.out.cell (blk_of_cell q4)).trans q4
                        have x1 := (HB.out.cell (blk_of_cell r1)).trans r1
                        have x2 := (HB.out.cell (blk_of_cell r2)).trans r2
                        have x3 := (HB.out.cell (blk_of_cell r3)).trans r3
                        have x4 := (HB.out.cell (blk_of_cell r4)).trans r4
                        have hlt9 : w.heap.size < wr.heap.size := by omega
                        have hne9 : w.heap.size ≠ wr.heap.size := by omega
                        have Hr := Lib.hid hr
                        clear hcells q0 q1 q2 q3 q4 hr
                        have bad : recOk e r = false → ∀ W, Below w2.heap.size w2 W → Ending.returned (.int .i64 1) = .returned (.int .i64 (cchk e)) ∧ Below w.heap.size w W := by
                          intro hf W hW
                          refine ⟨?_, HW2.out.trans (hW.mono HW2.out.size)⟩
                          unfold cchk
                          rw [if_neg]
                          intro h
                          simp only [Bool.and_eq_true, List.all_eq_true] at h
                          rw [h.2 r (List.mem_of_getElem? Hr.out)] at hf; cases hf
                        have Bad := Lib.hid bad
                        clear bad
                        by_cases c1 : r.c = e.c
                        · have d1 : ((r.c : Int) != e.c) = false := by rw [c1]; simp
                          have C1 := Lib.hid c1
                          clear c1
                          go_wp2_with fail
                          refine (may1_any r _).mono ?_
                          rintro v w4 ⟨rfl, h4⟩
                          cases m1 : decide (r.t = 6) with
                          | false =>
                            have M1 := Lib.hid m1
                            clear m1
                            go_wp2
                            go_ret
                            exact Bad.out (by unfold recOk mayR; rw [if_neg HK.out]; rw [M1.out]; simp) _ ((bel_alloc HB.out _).trans (h4.mono (by simp; omega)))
                          | true =>
                            have M1 := Lib.hid m1
                            clear m1
                            have y0 : w4.cell? ⟨wr.heap.size, 0, none⟩ = some (.string (bs r.name)) := (h4.cell (by simp)).trans (by go_simp)
                            have y1 : w4.cell? ⟨wr.heap.size, 1, none⟩ = some (.int .u16 r.t) := (h4.cell (by simp)).trans (by go_simp)
                            have y2 : w4.cell? ⟨wr.heap.size, 2, none⟩ = some (.int .u16 r.c) := (h4.cell (by simp)).trans (by go_simp)
                            have y3 : w4.cell? ⟨wr.heap.size, 3, none⟩ = some (.int .u32 r.ttl) := (h4.cell (by simp)).trans (by go_simp)
                            have y4 : w4.cell? ⟨wr.heap.size, 4, none⟩ = some (.string (bs r.data)) := (h4.cell (by simp)).trans (by go_simp)
                            have HB4 : Hid (Below w2.heap.size w2 w4) := Lib.hid ((bel_alloc HB.out _).trans (h4.mono (by simp; omega)))
                            go_wp2_with fail
                            refine (reccheck_any r _ hro hrn hrd).mono ?_
                            rintro v w5 ⟨rfl, h5⟩
                            have HB5 : Hid (Below w2.heap.size w2 w5) := Lib.hid (HB4.out.trans (h5.mono HB4.out.size))
                            have hz5 := h5.size
                            by_cases c2 : rchk r.name r.t r.data = 0
                            · have d2 : ((rchk r.name r.t r.data : Int) != 0) = false := by rw [c2]; rfl
                              have C2 := Lib.hid c2
                              clear c2
                              go_wp2
                              refine ⟨⟨k + 1, ?_, by omega, ?_, HB5.out⟩, ?_⟩
                              · rfl
                              · rw [List.take_add_one, List.all_append, Hall.out, Hr.out]
                                show recOk e r && true = true
                                unfold recOk mayR
                                rw [if_neg HK.out]
                                rw [decide_eq_true C1.out, M1.out, decide_eq_true C2.out]; rfl
                              · (simp [intOf]; omega)
                            · have d2 : ((rchk r.name r.t r.data : Int) != 0) = true := by rw [bne_iff_ne]; exact c2
                              have C2 := Lib.hid c2
                              clear c2
                              go_wp2
                              go_ret
                              exact Bad.out (by unfold recOk; rw [decide_eq_false C2.out]; simp) _ HB5.out
                        · have d1 : ((r.c : Int) != e.c) = true := by rw [bne_iff_ne]; exact c1
                          have C1 := Lib.hid c1
                          clear c1
                          go_wp2
                          go_ret
                          exact Bad.out (by unfold recOk; rw [decide_eq_false C1.out]; rfl) _ (bel_alloc HB.out _)
                      · have hke : k = e.recs.length := by omega
                        go_wp2
                        go_ret
                        refine ⟨?_, HW2.out.trans (HB.out.mono HW2.out.size)⟩
                        unfold cchk
                        rw [if_pos]; · rfl
                        rw [Hhead.out, Hlen.out]
                        have := Hall.out
                        rw [hke, List.take_length] at this
                        rw [this]; rfl

    · have b2 : ((chk e.name : Int) != 0) = true := by rw [bne_iff_ne]; exact hc
      have B2 := Lib.hid hc
      clear hc
      go_wp2
      go_ret
      exact ⟨Wrong.out (by unfold headOk; rw [decide_eq_false B2.out]; simp), HW2.out⟩
end Go.Proofs.Ytihfapnipifiiaa
/- The walks of cache.Key, New. -/
namespace Go.Proofs.Ytihfapnipifiiaa
open Go Go.RowKit Go.Shelf

set_option maxRecDepth 100000 in
theorem ckey_any (e : Ent) (rv : Value) (w : World) (he : EntIn e) :
    Calls Try.prog 18 #[e.val rv] w fun r w' => r = .returned (.string (bs e.key)) ∧ Below w.heap.size w w' := by
  obtain ⟨hnm, hrecs, t0, t1, c0, c1⟩ := he
  unfold Ent.val
  by_cases h : e.kind = 3
  · have b : (e.kind == (3 : Int)) = true := beq_iff_eq.2 h
    have H := Lib.hid h
    clear h
    go_enter Try.func18, Try.ntmps18
    go_wp2_with fail
    refine (keyOf_any 1 (bs e.name) 0 e.c _ (by rw [bs_size]; omega) (by omega) (by omega) c0 c1).mono ?_
    rw [lst_bs]
    rintro v w1 ⟨rfl, h3⟩
    go_wp2
    go_ret
    exact ⟨by unfold Ent.key; rw [if_pos H.out]; rfl, ((Below.refl _ w).alloc (Nat.le_refl _) _).trans (h3.mono (by simp))⟩
  · have b : (e.kind == (3 : Int)) = false := beq_eq_false_iff_ne.2 h
    have H := Lib.hid h
    clear h
    go_enter Try.func18, Try.ntmps18
    go_wp2_with fail
    refine (keyOf_any 0 (bs e.name) e.t e.c _ (by rw [bs_size]; omega) t0 t1 c0 c1).mono ?_
    rw [lst_bs]
    rintro v w1 ⟨rfl, h3⟩
    go_wp2
    go_ret
    exact ⟨by unfold Ent.key; rw [if_neg H.out]; rfl, ((Below.refl _ w).alloc (Nat.le_refl _) _).trans (h3.mono (by simp))⟩
end Go.Proofs.Ytihfapnipifiiaa
