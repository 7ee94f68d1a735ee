/- The walk of fingerpostref16.Check. -/
import Derived.Test.YtihfapnipifiiaaBox
import Derived.Handy
set_option linter.unusedVariables false
set_option linter.unusedSimpArgs false
namespace Go.Proofs.Ytihfapnipifiiaa
open Go Go.RowKit Go.Shelf

theorem headOk_iff (e : Ent) : headOk e = true ↔ 1 ≤ e.kind ∧ e.kind ≤ 3 ∧ chk e.name = 0 ∧ 0 ≤ e.til ∧ e.til ≤ 1125899906842624 ∧ 1 ≤ e.rank ∧ e.rank ≤ 4 ∧ 0 ≤ e.epoch ∧ e.epoch ≤ 1099511627776 := by
  unfold headOk within
  simp only [Bool.and_eq_true, decide_eq_true_eq]
  constructor
  · rintro ⟨⟨⟨⟨⟨a, b⟩, c⟩, d, f⟩, g, h⟩, i, j⟩; exact ⟨a, b, c, d, f, g, h, i, j⟩
  · rintro ⟨a, b, c, d, f, g, h, i, j⟩; exact ⟨⟨⟨⟨⟨a, b⟩, c⟩, d, f⟩, g, h⟩, i, j⟩
theorem headOk_no {e : Ent} (h : ¬ (1 ≤ e.kind ∧ e.kind ≤ 3 ∧ chk e.name = 0 ∧ 0 ≤ e.til ∧ e.til ≤ 1125899906842624 ∧ 1 ≤ e.rank ∧ e.rank ≤ 4 ∧ 0 ≤ e.epoch ∧ e.epoch ≤ 1099511627776)) : headOk e = false := by
  rw [← Bool.not_eq_true, headOk_iff]; exact h
theorem lenOk_one {e : Ent} (h : e.kind = 1) : lenOk e = true ↔ 1 ≤ e.recs.length ∧ e.recs.length ≤ 64 := by
  unfold lenOk within
  rw [if_pos h, h]
  simp only [Bool.and_eq_true, decide_eq_true_eq, Bool.not_eq_true', Bool.and_eq_false_iff, decide_eq_false_iff_not]
  omega
theorem lenOk_else {e : Ent} (h : e.kind ≠ 1) : lenOk e = true ↔ e.recs.length ≤ 1 ∧ (e.kind = 3 → e.t = 0) := by
  unfold lenOk within
  rw [if_neg h]
  simp only [Bool.and_eq_true, decide_eq_true_eq, Bool.not_eq_true', Bool.and_eq_false_iff, decide_eq_false_iff_not]
  omega
theorem lenOk_m {e : Ent} {m : Int} (hm : m = if e.kind = 1 then 64 else 1) (hne : e.kind = 1 → e.recs.length ≠ 0) : lenOk e = true ↔ (e.recs.length : Int) ≤ m ∧ (e.kind = 3 → e.t = 0) := by
  by_cases h : e.kind = 1
  · rw [if_pos h] at hm
    rw [lenOk_one h]
    have := hne h
    omega
  · rw [if_neg h] at hm
    rw [lenOk_else h]
    constructor
    · rintro ⟨a, b⟩; exact ⟨by omega, b⟩
    · rintro ⟨a, b⟩; exact ⟨by omega, b⟩
theorem recOk_iff (e : Ent) (r : RRec) : recOk e r = true ↔ rchk r.name r.t r.data = 0 ∧ r.c = e.c ∧ (e.kind = 1 → sameN r.name e.name = true ∧ r.t = e.t) ∧ (e.kind ≠ 1 → r.t = 6) := by
  unfold recOk mayR
  by_cases h : e.kind = 1
  · rw [if_pos h]
    simp only [Bool.and_eq_true, decide_eq_true_eq]
    constructor
    · rintro ⟨⟨a, b, c⟩, d⟩; exact ⟨d, a, fun _ => ⟨c, b⟩, fun q => absurd h q⟩
    · rintro ⟨a, b, c, _⟩; exact ⟨⟨b, (c h).2, (c h).1⟩, a⟩
  · rw [if_neg h]
    simp only [Bool.and_eq_true, decide_eq_true_eq]
    constructor
    · rintro ⟨⟨a, b⟩, d⟩; exact ⟨d, a, fun q => absurd q h, fun _ => b⟩
    · rintro ⟨a, b, _, d⟩; exact ⟨⟨b, d h⟩, a⟩
theorem bool_no {b : Bool} {p : Prop} (h : b = true ↔ p) (hn : ¬ p) : b = false := by
  cases b
  · rfl
  · exact absurd (h.1 rfl) hn

set_option maxRecDepth 100000 in
set_option maxHeartbeats 4000000 in
theorem rccheck_any (e : Ent) (rv : Value) (w : World) (he : EntIn e) (hrv : RecsAt w rv e.recs) :
    Calls Try.prog 17 #[e.val rv] w fun r w' => r = .returned (.int .i64 (cchk e)) ∧ Below w.heap.size w w' := by
  obtain ⟨hnm, hrecs, t0, t1, c0, c1⟩ := he
  obtain ⟨A, cap, rfl, hcap, hcells⟩ := hrv
  obtain ⟨W1, hW1⟩ : ∃ W, W = w.alloc (.cells #[.int .i64 e.kind, .string (bs e.name), .int .u16 e.t, .int .u16 e.c, .slice A e.recs.length cap, .int .i64 e.til, .int .i64 e.rank, .int .i64 e.epoch, .int .i64 e.source] 25) := ⟨_, rfl⟩
  have hbox : EntBox W1 w.heap.size e (.slice A e.recs.length cap) := by rw [hW1]; exact EntBox.new w e _
  have hb1 : Below w.heap.size w W1 := by rw [hW1]; exact (Below.refl _ w).alloc (Nat.le_refl _) _
  have Hbox := Lib.hid hbox
  have Hb1 := Lib.hid hb1
  have HW1 := Lib.hid hW1
  have Hcells := Lib.hid hcells
  have Hrecs := Lib.hid hrecs
  have hlt1 := hbox.lt
  clear hbox hb1 hW1 hcells hrecs
  have wrong : headOk e = false → cchk e = 1 := by intro h; unfold cchk; rw [h]; rfl
  have wrong2 : lenOk e = false → cchk e = 1 := by intro h; unfold cchk; rw [h]; simp
  have wrong3 : ∀ r ∈ e.recs, recOk e r = false → cchk e = 1 := by
    intro r hr h
    unfold cchk
    have : e.recs.all (recOk e) = false := by rw [List.all_eq_false]; exact ⟨r, hr, by simp [h]⟩
    rw [this]; simp
  have Wrong := Lib.hid wrong
  have Wrong2 := Lib.hid wrong2
  have Wrong3 := Lib.hid wrong3
  clear wrong wrong2 wrong3
  unfold Ent.val
  go_enter Try.func17, Try.ntmps17
  go_upto_region 1 with fail
  rw [← HW1.out]
  go_cut [50] (fun v wx => Below W1.heap.size W1 wx ∧ v = .bool (!headOk e))
  case first =>
    obtain ⟨x0, x1, x2, x3, x4, x5, x6, x7, x8⟩ := Hbox.out.cells
    by_cases k1 : e.kind < 1
    · have hh := Lib.hid (headOk_no (e := e) (by omega))
      have d1 := decide_eq_true k1
      clear k1
      go_wp2_with fail
      go_meet
      exact ⟨Below.refl _ _, by rw [hh.out]; rfl⟩
    by_cases k2 : 3 < e.kind
    · have hh := Lib.hid (headOk_no (e := e) (by omega))
      have d1 := decide_eq_false k1
      have d2 := decide_eq_true k2
      clear k1 k2
      go_wp2_with fail
      go_meet
      exact ⟨Below.refl _ _, by rw [hh.out]; rfl⟩
    have d1 := decide_eq_false k1
    have d2 := decide_eq_false k2
    go_wp2_with fail
    refine (rcheck_any (bs e.name) _ (by rw [bs_size]; omega)).mono ?_
    rw [lst_bs]
    rintro r w2 ⟨rfl, hb⟩
    obtain ⟨x0, x1, x2, x3, x4, x5, x6, x7, x8⟩ := (Hbox.out.below hb).cells
    have Hb := Lib.hid hb
    clear hb
    by_cases k3 : chk e.name = 0
    case neg =>
      have hh := Lib.hid (headOk_no (e := e) (by omega))
      have d3 : (chk e.name != 0) = true := bne_iff_ne.2 k3
      clear k1 k2 k3
      go_wp2_with fail
      go_meet
      exact ⟨Hb.out, by rw [hh.out]; rfl⟩
    have d3 : (chk e.name != 0) = false := by rw [k3]; rfl
    have K3 := Lib.hid k3
    by_cases k4 : e.til < 0
    · have hh := Lib.hid (headOk_no (e := e) (by omega))
      have d4 := decide_eq_true k4
      clear k1 k2 k3 k4
      go_wp2_with fail
      go_meet
      exact ⟨Hb.out, by rw [hh.out]; rfl⟩
    have d4 := decide_eq_false k4
    by_cases k5 : 1125899906842624 < e.til
    · have hh := Lib.hid (headOk_no (e := e) (by omega))
      have d5 := decide_eq_true k5
      clear k1 k2 k3 k4 k5
      go_wp2_with fail
      go_meet
      exact ⟨Hb.out, by rw [hh.out]; rfl⟩
    have d5 := decide_eq_false k5
    by_cases k6 : e.rank < 1
    · have hh := Lib.hid (headOk_no (e := e) (by omega))
      have d6 := decide_eq_true k6
      clear k1 k2 k3 k4 k5 k6
      go_wp2_with fail
      go_meet
      exact ⟨Hb.out, by rw [hh.out]; rfl⟩
    have d6 := decide_eq_false k6
    by_cases k7 : 4 < e.rank
    · have hh := Lib.hid (headOk_no (e := e) (by omega))
      have d7 := decide_eq_true k7
      clear k1 k2 k3 k4 k5 k6 k7
      go_wp2_with fail
      go_meet
      exact ⟨Hb.out, by rw [hh.out]; rfl⟩
    have d7 := decide_eq_false k7
    by_cases k8 : e.epoch < 0
    · have hh := Lib.hid (headOk_no (e := e) (by omega))
      have d8 := decide_eq_true k8
      clear k1 k2 k3 k4 k5 k6 k7 k8
      go_wp2_with fail
      go_meet
      exact ⟨Hb.out, by rw [hh.out]; rfl⟩
    have d8 := decide_eq_false k8
    by_cases k9 : 1099511627776 < e.epoch
    · have hh := Lib.hid (headOk_no (e := e) (by omega))
      have d9 := decide_eq_true k9
      clear k1 k2 k3 k4 k5 k6 k7 k8 k9
      go_wp2_with fail
      go_meet
      exact ⟨Hb.out, by rw [hh.out]; rfl⟩
    have d9 := decide_eq_false k9
    have hh := Lib.hid ((headOk_iff e).2 (by omega))
    clear k1 k2 k3 k4 k5 k6 k7 k8 k9
    go_wp2_with fail
    go_meet
    exact ⟨Hb.out, by rw [hh.out]; rfl⟩
  case rest =>
    obtain ⟨hb, rfl⟩ := hcut
    have hbox2 := Hbox.out.below hb
    have Hbox2 := Lib.hid hbox2
    have Hb2 := Lib.hid (bel_call Hb1.out hb)
    obtain ⟨x0, x1, x2, x3, x4, x5, x6, x7, x8⟩ := hbox2.cells
    clear hb hbox2 Hbox Hb1 HW1 hlt1
    generalize wc = w2 at *
    cases hh : headOk e with
    | false =>
      have Hc := Lib.hid (Wrong.out hh)
      clear hh
      go_wp2_with fail
      go_ret
      exact ⟨by rw [Hc.out]; rfl, Hb2.out⟩
    | true =>
      have Hh := Lib.hid hh
      clear hh
      obtain ⟨m, hm⟩ : ∃ m : Int, m = if e.kind = 1 then 64 else 1 := ⟨_, rfl⟩
      have Hm := Lib.hid hm
      clear hm
      go_upto_if 53 with fail
      go_cut [3] (fun v wx => w2 = wx ∧ v = .int .i64 m ∧ (e.kind = 1 → e.recs.length ≠ 0))
      case first =>
        by_cases hk : e.kind = 1
        · have d1 : (e.kind == 1) = true := beq_iff_eq.2 hk
          by_cases hz : e.recs.length = 0
          · have d2 : ((e.recs.length : Int) == 0) = true := by simp [hz]
            have Hc := Lib.hid (Wrong2.out (bool_no (lenOk_one hk) (by omega)))
            clear hk hz
            go_wp2_with fail
            go_ret
            exact ⟨by rw [Hc.out]; rfl, Hb2.out⟩
          · have d2 : ((e.recs.length : Int) == 0) = false := by simp [hz]
            have hmv := Hm.out
            rw [if_pos hk] at hmv
            have Hmv := Lib.hid hmv
            have Hz := Lib.hid hz
            clear hk hz hmv
            go_wp2_with fail
            go_meet
            exact ⟨rfl, by rw [Hmv.out], fun _ => Hz.out⟩
        · have d1 : (e.kind == 1) = false := beq_eq_false_iff_ne.2 hk
          have hmv := Hm.out
          rw [if_neg hk] at hmv
          have Hmv := Lib.hid hmv
          have Hk := Lib.hid hk
          clear hk hmv
          go_wp2_with fail
          go_meet
          exact ⟨rfl, by rw [Hmv.out], fun q => absurd q Hk.out⟩
      case rest =>
        obtain ⟨rfl, rfl, hne⟩ := hcut
        have Hlen := Lib.hid (lenOk_m Hm.out hne)
        clear hne
        go_upto_region 8 with fail
        go_cut [72] (fun v wx => w2 = wx ∧ v = .bool (!lenOk e))
        case first =>
          by_cases hk : e.kind = 3
          · have d1 : (e.kind == 3) = true := beq_iff_eq.2 hk
            by_cases ht : e.t = 0
            · have d2 : (e.t != 0) = false := by rw [ht]; rfl
              by_cases hl : m < (e.recs.length : Int)
              · have d3 := decide_eq_true hl
                have Hc := Lib.hid (bool_no Hlen.out (by omega))
                clear hk ht hl
                go_wp2_with fail
                go_meet
                exact ⟨rfl, by rw [Hc.out]; rfl⟩
              · have d3 := decide_eq_false hl
                have Hc := Lib.hid (Hlen.out.2 ⟨by omega, fun _ => ht⟩)
                clear hk ht hl
                go_wp2_with fail
                go_meet
                exact ⟨rfl, by rw [Hc.out]; rfl⟩
            · have d2 : (e.t != 0) = true := bne_iff_ne.2 ht
              have Hc := Lib.hid (bool_no Hlen.out (fun q => ht (q.2 hk)))
              clear hk ht
              go_wp2_with fail
              go_meet
              exact ⟨rfl, by rw [Hc.out]; rfl⟩
          · have d1 : (e.kind == 3) = false := beq_eq_false_iff_ne.2 hk
            by_cases hl : m < (e.recs.length : Int)
            · have d3 := decide_eq_true hl
              have Hc := Lib.hid (bool_no Hlen.out (by omega))
              clear hk hl
              go_wp2_with fail
              go_meet
              exact ⟨rfl, by rw [Hc.out]; rfl⟩
            · have d3 := decide_eq_false hl
              have Hc := Lib.hid (Hlen.out.2 ⟨by omega, fun q => absurd q hk⟩)
              clear hk hl
              go_wp2_with fail
              go_meet
              exact ⟨rfl, by rw [Hc.out]; rfl⟩
        case rest =>
          obtain ⟨rfl, rfl⟩ := hcut
          cases hl : lenOk e with
          | false =>
            have Hc := Lib.hid (Wrong2.out hl)
            clear hl
            go_wp2_with fail
            go_ret
            exact ⟨by rw [Hc.out]; rfl, Hb2.out⟩
          | true =>
            have hb64 : (e.recs.length : Int) ≤ 64 := by
              have h1 := (Hlen.out.1 hl).1
              have h2 : m ≤ 64 := by rw [Hm.out]; split <;> omega
              omega
            have Hl := Lib.hid hl
            clear hl x0 x1 x2 x3 x4 x5 x6 x7 x8
            go_wp2_with fail
            (try simp only [Bool.not_true])
            go_loopw [4, 5, 6] (fun i_ _ _ wr => ∃ k : Nat, i_ = .int .i64 k ∧ k ≤ e.recs.length ∧ (∀ j r, j < k → e.recs[j]? = some r → recOk e r = true) ∧ Below w2.heap.size w2 wr) (fun i_ _ _ _ => e.recs.length - (intOf i_).toNat)
            case atStart =>
              exact ⟨0, rfl, Nat.zero_le _, fun j r hj => absurd hj (Nat.not_lt_zero _), Below.refl _ _⟩
            case round =>
              obtain ⟨k, rfl, hk, hall, hB⟩ := hrel
              have hboxr := Hbox2.out.below hB
              obtain ⟨x0, x1, x2, x3, x4, x5, x6, x7, x8⟩ := hboxr.cells
              have Hboxr := Lib.hid hboxr
              have HB := Lib.hid hB
              have Hall := Lib.hid hall
              have hltw := hboxr.lt
              clear hB hall hboxr
              by_cases hlt : k < e.recs.length
              · obtain ⟨r, hr⟩ : ∃ r, e.recs[k]? = some r := ⟨_, List.getElem?_eq_getElem hlt⟩
                obtain ⟨b, off, hA, hcs⟩ : ∃ b off, A = some ⟨b, off, none⟩ ∧ ∀ i r, e.recs[i]? = some r → ∀ j u, r.cells[j]? = some u → w.cell? ⟨b, off + i * 5 + j, none⟩ = some u := by
                  rcases Hcells.out with h | h
                  · rw [h] at hlt; exact absurd hlt (Nat.not_lt_zero _)
                  · exact h
                subst hA
                have up : ∀ p u, w.cell? p = some u → wr.cell? p = some u := fun p u h1 => by
                  have h2 := (Hb2.out.cell (blk_of_cell h1)).trans h1
                  exact (HB.out.cell (blk_of_cell h2)).trans h2
                have q0 : wr.cell? ⟨b, off + k * 5, none⟩ = some (.string (bs r.name)) := up _ _ (hcs k r hr 0 _ rfl)
                have q1 : wr.cell? ⟨b, off + k * 5 + 1, none⟩ = some (.int .u16 r.t) := up _ _ (hcs k r hr 1 _ rfl)
                have q2 : wr.cell? ⟨b, off + k * 5 + 2, none⟩ = some (.int .u16 r.c) := up _ _ (hcs k r hr 2 _ rfl)
                have q3 : wr.cell? ⟨b, off + k * 5 + 3, none⟩ = some (.int .u32 r.ttl) := up _ _ (hcs k r hr 3 _ rfl)
                have q4 : wr.cell? ⟨b, off + k * 5 + 4, none⟩ = some (.string (bs r.data)) := up _ _ (hcs k r hr 4 _ rfl)
                have dk : decide ((k : Int) < (e.recs.length : Int)) = true := decide_eq_true (by omega)
                have dk2 : (k : Int) < (e.recs.length : Int) := by omega
                have hri := Hrecs.out r (List.mem_of_getElem? hr)
                have hn1 : (bs r.name).size ≤ 1099511627776 := by rw [bs_size]; have := hri.2.1; omega
                have hn2 : (bs e.name).size ≤ 1099511627776 := by rw [bs_size]; omega
                have Hri := Lib.hid hri
                have Hr := Lib.hid hr
                clear hcs up hr hri
                go_wp2_with fail
                refine (rsame_any (bs r.name) (bs e.name) _ hn1 hn2).mono ?_
                rw [lst_bs, lst_bs]
                rintro r1 w3 ⟨rfl, hb⟩
                have hz : w3.heap[wr.heap.size]? = some (.cells #[.string (bs r.name), .int .u16 r.t, .int .u16 r.c, .int .u32 r.ttl, .string (bs r.data)] 56 (0, 0)) := (hb.block _ (by simp)).trans (heap_alloc_new _ _)
                have hb3 : Below wr.heap.size wr w3 := bel_call (by go_grown) hb
                have Hz := Lib.hid hz
                have Hb3 := Lib.hid hb3
                have hbox3 := Hboxr.out.below hb3
                have Hbox3 := Lib.hid hbox3
                have hzl := (Array.getElem?_eq_some_iff.1 hz).1
                clear hb hb3 hz hbox3 q0 q1 q2 q3 q4 x0 x1 x2 x3 x4 x5 x6 x7 x8 Hboxr
                obtain ⟨sm, hsm⟩ : ∃ s, s = sameN r.name e.name := ⟨_, rfl⟩
                rw [← hsm]
                have Hsm := Lib.hid hsm
                clear hsm
                go_upto_region 15 with fail
                go_cut [6, 125] (fun _ v wx => Below w3.heap.size w3 wx ∧ v = .bool (!recOk e r))
                case first =>
                  obtain ⟨x0, x1, x2, x3, x4, x5, x6, x7, x8⟩ := Hbox3.out.cells
                  have hz := Hz.out
                  have z0 : w3.cell? ⟨wr.heap.size, 0, none⟩ = some (.string (bs r.name)) := by simp [World.cell?, hz]
                  have z1 : w3.cell? ⟨wr.heap.size, 1, none⟩ = some (.int .u16 r.t) := by simp [World.cell?, hz]
                  have z2 : w3.cell? ⟨wr.heap.size, 2, none⟩ = some (.int .u16 r.c) := by simp [World.cell?, hz]
                  have z3 : w3.cell? ⟨wr.heap.size, 3, none⟩ = some (.int .u32 r.ttl) := by simp [World.cell?, hz]
                  have z4 : w3.cell? ⟨wr.heap.size, 4, none⟩ = some (.string (bs r.data)) := by simp [World.cell?, hz]
                  have hrc := rreccheck_any r w3 Hri.out.2.1 Hri.out.2.2
                  unfold RRec.val at hrc
                  have Hrc := Lib.hid hrc
                  clear hz hrc
                  go_wp2_with fail
                  refine Hrc.out.mono ?_
                  rintro r1 w4 ⟨rfl, hb⟩
                  have hz := (hb.block _ hzl).trans Hz.out
                  have z1 : w4.cell? ⟨wr.heap.size, 1, none⟩ = some (.int .u16 r.t) := by simp [World.cell?, hz]
                  have z2 : w4.cell? ⟨wr.heap.size, 2, none⟩ = some (.int .u16 r.c) := by simp [World.cell?, hz]
                  obtain ⟨x0, x1, x2, x3, x4, x5, x6, x7, x8⟩ := (Hbox3.out.below hb).cells
                  have Hb := Lib.hid hb
                  clear hb hz
                  obtain ⟨rc, hrc⟩ : ∃ c, c = rchk r.name r.t r.data := ⟨_, rfl⟩
                  rw [← hrc]
                  by_cases k1 : rc = 0
                  case neg =>
                    have hh := Lib.hid (bool_no (recOk_iff e r) (fun q => k1 (hrc.trans q.1)))
                    have d1 : (rc != 0) = true := bne_iff_ne.2 k1
                    clear k1 hrc
                    go_wp2_with fail
                    go_meet
                    exact ⟨Hb.out, by rw [hh.out]; rfl⟩
                  have d1 : (rc != 0) = false := by rw [k1]; rfl
                  by_cases k2 : r.c = e.c
                  case neg =>
                    have hh := Lib.hid (bool_no (recOk_iff e r) (fun q => k2 q.2.1))
                    have d2 : (r.c != e.c) = true := bne_iff_ne.2 k2
                    clear k1 k2 hrc
                    go_wp2_with fail
                    go_meet
                    exact ⟨Hb.out, by rw [hh.out]; rfl⟩
                  have d2 : (r.c != e.c) = false := by rw [k2]; simp
                  by_cases k3 : e.kind = 1
                  · have d3 : (e.kind == 1) = true := beq_iff_eq.2 k3
                    have d3' : (e.kind != 1) = false := by rw [k3]; rfl
                    cases hs : sm with
                    | false =>
                      have hh := Lib.hid (bool_no (recOk_iff e r) (fun q => by
                        have h1 := (q.2.2.1 k3).1
                        rw [← Hsm.out, hs] at h1; cases h1))
                      clear k1 k2 k3 hrc hs
                      go_wp2_with fail
                      go_meet
                      exact ⟨Hb.out, by rw [hh.out]; rfl⟩
                    | true =>
                      by_cases k4 : r.t = e.t
                      · have d4 : (r.t != e.t) = false := by rw [k4]; simp
                        have hh := Lib.hid ((recOk_iff e r).2 ⟨hrc.symm.trans k1, k2, fun _ => ⟨by rw [← Hsm.out]; exact hs, k4⟩, fun q => absurd k3 q⟩)
                        clear k1 k2 k3 k4 hrc hs
                        go_wp2_with fail
                        go_meet
                        exact ⟨Hb.out, by rw [hh.out]; rfl⟩
                      · have d4 : (r.t != e.t) = true := bne_iff_ne.2 k4
                        have hh := Lib.hid (bool_no (recOk_iff e r) (fun q => k4 (q.2.2.1 k3).2))
                        clear k1 k2 k3 k4 hrc hs
                        go_wp2_with fail
                        go_meet
                        exact ⟨Hb.out, by rw [hh.out]; rfl⟩
                  · have d3 : (e.kind == 1) = false := beq_eq_false_iff_ne.2 k3
                    have d3' : (e.kind != 1) = true := bne_iff_ne.2 k3
                    by_cases k4 : r.t = 6
                    · have d4 : (r.t != 6) = false := by rw [k4]; rfl
                      have hh := Lib.hid ((recOk_iff e r).2 ⟨hrc.symm.trans k1, k2, fun q => absurd q k3, fun _ => k4⟩)
                      clear k1 k2 k3 k4 hrc
                      go_wp2_with fail
                      go_meet
                      exact ⟨Hb.out, by rw [hh.out]; rfl⟩
                    · have d4 : (r.t != 6) = true := bne_iff_ne.2 k4
                      have hh := Lib.hid (bool_no (recOk_iff e r) (fun q => k4 (q.2.2.2 k3)))
                      clear k1 k2 k3 k4 hrc
                      go_wp2_with fail
                      go_meet
                      exact ⟨Hb.out, by rw [hh.out]; rfl⟩
                case rest =>
                  obtain ⟨hb, rfl⟩ := hcut
                  have HB4 := Lib.hid (bel_call HB.out (bel_call Hb3.out hb))
                  clear hb
                  cases hro : recOk e r with
                  | false =>
                    have Hc := Lib.hid (Wrong3.out r (List.mem_of_getElem? Hr.out) hro)
                    clear hro
                    go_wp2_with fail
                    go_ret
                    exact ⟨by rw [Hc.out]; rfl, bel_call Hb2.out HB4.out⟩
                  | true =>
                    have hall2 : ∀ j r, j < k + 1 → e.recs[j]? = some r → recOk e r = true := by
                      intro j r' hj hr'
                      by_cases ej : j = k
                      · rw [ej, Hr.out] at hr'
                        rw [← Option.some.inj hr']; exact hro
                      · exact Hall.out j r' (by omega) hr'
                    have Hall2 := Lib.hid hall2
                    clear hro hall2
                    go_wp2_with fail
                    go_roundw
                    case rel => exact ⟨k + 1, rfl, by omega, Hall2.out, HB4.out⟩
                    case measure => simp [intOf]; omega
              · have hke : k = e.recs.length := by omega
                have hall2 : e.recs.all (recOk e) = true := by
                  rw [List.all_eq_true]
                  intro r hr
                  obtain ⟨j, hj⟩ := List.getElem?_of_mem hr
                  exact Hall.out j r (by have := (List.getElem?_eq_some_iff.1 hj).1; omega) hj
                have hc : cchk e = 0 := by unfold cchk; rw [Hh.out, Hl.out, hall2]; rfl
                have Hc := Lib.hid hc
                have dk : decide ((k : Int) < (e.recs.length : Int)) = false := decide_eq_false (by omega)
                clear hc hall2 hke
                go_wp2_with fail
                go_ret
                exact ⟨by rw [Hc.out]; rfl, bel_call Hb2.out HB.out⟩
end Go.Proofs.Ytihfapnipifiiaa
