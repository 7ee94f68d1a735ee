/- The walk of CacheRanks. -/
import Derived.Test.YtihfapnipifiiaaAwake
import Derived.Handy
set_option linter.unusedVariables false
set_option linter.unusedSimpArgs false
namespace Go.Proofs.Ytihfapnipifiiaa
open Go Go.RowKit Go.Shelf

/-- A rank from 1 to 4. -/
def rk (a : Int) : Int := if a.tmod 4 < 0 then -(a.tmod 4) + 1 else a.tmod 4 + 1
theorem rk_bounds (a : Int) : 1 ≤ rk a ∧ rk a ≤ 4 := by
  have h := tmod_bounds a 4 (by decide)
  have e : ((4 : Nat) : Int) = 4 := rfl
  rw [e] at h
  unfold rk; split <;> omega
/-- What comes of the two entries. -/
structure Two (t : Bool) (u now r0 r1 : Int) (E : Ent) : Prop where
  put : putB (entE 97 (now + 5) r1 7) now [entE 97 u r0 0] = t
  putR : putR 5 now (entE 97 (now + 5) r1 7) [entE 97 u r0 0] = [E]
  get : getE (keyL 0 [1, 97, 0] 1 1) now [E] = some E
  src : (E.source == 7) = t
  cmp : (decide (u < now) || decide (r0 ≤ r1)) = t
theorem two_of {u now r0 r1 : Int} (h0 : 0 ≤ u) (h1 : u < 1099511627776) (n0 : 0 ≤ now) (n1 : now < 1099511627776) (a0 : 1 ≤ r0) (a1 : r0 ≤ 4) (b0 : 1 ≤ r1) (b1 : r1 ≤ 4) : ∃ t E, Two t u now r0 r1 E := by
  have hk : (entE 97 u r0 0).key = (entE 97 (now + 5) r1 7).key := by rw [key_one', key_one']
  by_cases h : u < now ∨ r0 ≤ r1
  · have hp : putB (entE 97 (now + 5) r1 7) now [entE 97 u r0 0] = true := putB_true (cchk_one _ (by omega) (by omega) b0 b1) (by show now ≤ now + 5; omega) (fun x hx _ ht => by
      rw [List.mem_singleton.1 hx] at ht ⊢
      have : now ≤ u := ht
      show r0 ≤ r1
      omega)
    refine ⟨true, entE 97 (now + 5) r1 7, hp, ?_, getE_at (s := []) (fun x hx => by cases hx) (key_one' _ _ _ _) (by show now ≤ now + 5; omega), rfl, ?_⟩
    · unfold Proofs.Ytihfapnipifiiaa.putR putL put3 put2 put1
      rw [if_pos hp]
      have e : [entE 97 u r0 0].filter (fun y => y.key != (entE 97 (now + 5) r1 7).key) = [] := by
        rw [List.filter_cons_of_neg (by simp [hk])]; rfl
      rw [e]
      rfl
    · rw [Bool.or_eq_true, decide_eq_true_eq, decide_eq_true_eq]; exact h
  · have hp : putB (entE 97 (now + 5) r1 7) now [entE 97 u r0 0] = false := putB_false (x := entE 97 u r0 0) (List.mem_cons_self) hk (by show now ≤ u; omega) (by show r1 < r0; omega)
    refine ⟨false, entE 97 u r0 0, hp, putR_no hp, getE_at (s := []) (fun x hx => by cases hx) (key_one' _ _ _ _) (by show now ≤ u; omega), rfl, ?_⟩
    rw [Bool.or_eq_false_iff, decide_eq_false_iff_not, decide_eq_false_iff_not]; omega

theorem ent_cells {W : World} {k : Nat} {e : Ent} {rv : Value} (h : W.heap[k]? = some (.cells #[.int .i64 e.kind, .string (bs e.name), .int .u16 e.t, .int .u16 e.c, rv, .int .i64 e.til, .int .i64 e.rank, .int .i64 e.epoch, .int .i64 e.source] 25 (0, 0))) :
    W.cell? ⟨k, 0, none⟩ = some (.int .i64 e.kind) ∧ W.cell? ⟨k, 1, none⟩ = some (.string (bs e.name)) ∧ W.cell? ⟨k, 2, none⟩ = some (.int .u16 e.t) ∧ W.cell? ⟨k, 3, none⟩ = some (.int .u16 e.c) ∧ W.cell? ⟨k, 4, none⟩ = some rv ∧ W.cell? ⟨k, 5, none⟩ = some (.int .i64 e.til) ∧
    W.cell? ⟨k, 6, none⟩ = some (.int .i64 e.rank) ∧ W.cell? ⟨k, 7, none⟩ = some (.int .i64 e.epoch) ∧ W.cell? ⟨k, 8, none⟩ = some (.int .i64 e.source) := by
  refine ⟨?_, ?_, ?_, ?_, ?_, ?_, ?_, ?_, ?_⟩ <;> simp [World.cell?, h]
theorem row2_set0 {W : World} {rb : Nat} {x y v : Int} (h : W.heap[rb]? = some (.cells #[.int .i64 x, .int .i64 y] 40 (0, 0))) : (W.setCell ⟨rb, 0, none⟩ (.int .i64 v)).heap[rb]? = some (.cells #[.int .i64 v, .int .i64 y] 40 (0, 0)) := by
  simp [World.setCell, Array.getElem?_modify, h]
theorem row2_set1 {W : World} {rb : Nat} {x y v : Int} (h : W.heap[rb]? = some (.cells #[.int .i64 x, .int .i64 y] 40 (0, 0))) : (W.setCell ⟨rb, 1, none⟩ (.int .i64 v)).heap[rb]? = some (.cells #[.int .i64 x, .int .i64 v] 40 (0, 0)) := by
  simp [World.setCell, Array.getElem?_modify, h]

set_option maxRecDepth 100000 in
set_option maxHeartbeats 2000000 in
theorem ranks_any (a0 a1 u now : Int) (w : World) :
    Calls Try.prog 5 #[.agg #[.int .i64 a0, .int .i64 a1], .int .i64 u, .int .i64 now] w fun r w' => r = .returned (.bool true) ∧ Below w.heap.size w w' := by
  by_cases hin : 0 ≤ u ∧ u < 1099511627776 ∧ 0 ≤ now ∧ now < 1099511627776
  case neg =>
    go_enter Try.func5, Try.ntmps5
    go_wp2_with fail
    refine (awake_any _).mono ?_
    rintro r w1 ⟨rfl, hb⟩
    have Hb := Lib.hid (bel_call (w := w) (by go_grown) hb)
    have Hin := Lib.hid hin
    clear hb hin
    by_cases h1 : u < 0
    · have d1 := decide_eq_true h1
      go_wp2_with fail
      go_ret
      exact ⟨rfl, Hb.out⟩
    by_cases h2 : 1099511627776 ≤ u
    · have d1 := decide_eq_false h1
      have d2 := decide_eq_true h2
      go_wp2_with fail
      go_ret
      exact ⟨rfl, Hb.out⟩
    by_cases h3 : now < 0
    · have d1 := decide_eq_false h1
      have d2 := decide_eq_false h2
      have d3 := decide_eq_true h3
      go_wp2_with fail
      go_ret
      exact ⟨rfl, Hb.out⟩
    · have d1 := decide_eq_false h1
      have d2 := decide_eq_false h2
      have d3 := decide_eq_false h3
      have d4 : decide (1099511627776 ≤ now) = true := decide_eq_true (by have := Hin.out; omega)
      go_wp2_with fail
      go_ret
      exact ⟨rfl, Hb.out⟩
  case pos =>
    obtain ⟨h0, h1, n0, n1⟩ := hin
    obtain ⟨b0, b1⟩ := rk_bounds a0
    obtain ⟨b2, b3⟩ := rk_bounds a1
    obtain ⟨t, E, hT⟩ := two_of h0 h1 n0 n1 b0 b1 b2 b3
    have HT := Lib.hid hT
    have d1 : decide (u < 0) = false := decide_eq_false (by omega)
    have d2 : decide (1099511627776 ≤ u) = false := decide_eq_false (by omega)
    have d3 : decide (now < 0) = false := decide_eq_false (by omega)
    have d4 : decide (1099511627776 ≤ now) = false := decide_eq_false (by omega)
    clear hT
    go_enter Try.func5, Try.ntmps5
    go_wp2_with fail
    refine (awake_any _).mono ?_
    rintro r w1 ⟨rfl, hb⟩
    have hpb : w1.heap[w.heap.size]? = some (.cells #[.int .i64 a0, .int .i64 a1] 40 (0, 0)) := (hb.block _ (by simp)).trans (heap_alloc_new _ _)
    have Hpb := Lib.hid hpb
    have Hb := Lib.hid (bel_call (w := w) (by go_grown) hb)
    have hz1 := hb.size
    rw [World.size_alloc] at hz1
    clear hb hpb
    go_wp2_with fail
    refine (new_mine 5 _ Hb.out).mono ?_
    rintro r w2 ⟨rfl, hb, hM⟩
    rw [show capOf 5 = 5 from by decide] at hM
    have hz2 := hb.size
    have Hpb2 := Lib.hid ((hb.block _ (by omega)).trans Hpb.out)
    have M2 := Lib.hid hM
    clear hM hb Hpb
    obtain ⟨cb, hcb⟩ : ∃ cb, cb = w1.heap.size := ⟨_, rfl⟩
    rw [← hcb] at M2 ⊢
    clear hcb
    obtain ⟨c2, hc2⟩ : ∃ c2, c2 = Ca.new cb 5 := ⟨_, rfl⟩
    rw [← hc2] at M2
    clear hc2
    go_wp2_with fail
    obtain ⟨rb, hrb⟩ : ∃ rb, rb = w2.heap.size := ⟨_, rfl⟩
    have hrn : ¬ c2.own rb := M2.out.far (by omega)
    have hrB : w.heap.size < rb := by omega
    obtain ⟨W0, hW0⟩ : ∃ W0, W0 = w2.alloc (.cells #[.int .i64 0, .int .i64 0] 40) := ⟨_, rfl⟩
    have hrow : W0.heap[rb]? = some (.cells #[.int .i64 0, .int .i64 0] 40 (0, 0)) := by rw [hW0, hrb]; exact heap_alloc_new _ _
    have hbel : Below w2.heap.size w2 W0 := by rw [hW0]; exact (Below.refl _ _).alloc (Nat.le_refl _) _
    have M0 := Lib.hid (M2.out.step hbel)
    have Hpb0 := Lib.hid ((hbel.block _ (by omega)).trans Hpb2.out)
    have Hrow := Lib.hid hrow
    have hz0 : rb < W0.heap.size := (Array.getElem?_eq_some_iff.1 hrow).1
    rw [← hW0, ← hrb]
    clear hrb hW0 hrow hbel M2 Hpb2
    go_loopw [10] (fun i_ wr => ∃ (k : Nat) (x y : Int), i_ = .int .i64 k ∧ k ≤ 2 ∧ wr.heap[rb]? = some (.cells #[.int .i64 x, .int .i64 y] 40 (0, 0)) ∧ (1 ≤ k → x = rk a0) ∧ (2 ≤ k → y = rk a1) ∧ ModS (fun j => j = rb) W0 wr) (fun i_ _ => 2 - (intOf i_).toNat)
    case atStart =>
      exact ⟨0, 0, 0, rfl, by decide, Hrow.out, fun h => absurd h (by decide), fun h => absurd h (by decide), ModS.refl _ _⟩
    case round =>
      obtain ⟨k, x, y, rfl, hk, hrow, hx, hy, hm⟩ := hrel
      have Hm := Lib.hid hm
      have hpbr : wr.heap[w.heap.size]? = some (.cells #[.int .i64 a0, .int .i64 a1] 40 (0, 0)) := (hm.block _ (by omega) (by omega)).trans Hpb0.out
      have p0 : wr.cell? ⟨w.heap.size, 0, none⟩ = some (.int .i64 a0) := by simp [World.cell?, hpbr]
      have p1 : wr.cell? ⟨w.heap.size, 1, none⟩ = some (.int .i64 a1) := by simp [World.cell?, hpbr]
      have r0 : wr.cell? ⟨rb, 0, none⟩ = some (.int .i64 x) := by simp [World.cell?, hrow]
      have r1 : wr.cell? ⟨rb, 1, none⟩ = some (.int .i64 y) := by simp [World.cell?, hrow]
      have f0 : wr.frozen? ⟨rb, 0, none⟩ = false := by simp [World.frozen?, hrow]
      have f1 : wr.frozen? ⟨rb, 1, none⟩ = false := by simp [World.frozen?, hrow]
      have Hrw := Lib.hid hrow
      have Hx := Lib.hid hx
      have Hy := Lib.hid hy
      clear hm hpbr hrow hx hy
      have hne : w.heap.size ≠ rb := by omega
      have bm0 := tmod_bounds a0 4 (by decide)
      have bm1 := tmod_bounds a1 4 (by decide)
      have e4 : ((4 : Nat) : Int) = 4 := rfl
      rw [e4] at bm0 bm1
      clear e4
      rcases (show k = 0 ∨ k = 1 ∨ k = 2 by omega) with rfl | rfl | rfl
      · by_cases hs : a0.tmod 4 < 0
        · have hd := decide_eq_true hs
          have e1 : wrap64 (-(a0.tmod 4)) = -(a0.tmod 4) := by unfold wrap64; omega
          have e2 : wrap64 (-(a0.tmod 4) + 1) = -(a0.tmod 4) + 1 := by unfold wrap64; omega
          go_wp2_with fail
          refine ⟨⟨1, rk a0, y, rfl, by decide, ?_, fun _ => rfl, fun h => absurd h (by decide), ?_⟩, by simp [intOf]⟩
          · have er : rk a0 = -(a0.tmod 4) + 1 := by unfold rk; rw [if_pos hs]
            rw [er]
            exact row2_set0 (row2_set0 (row2_set0 Hrw.out))
          · exact ((Hm.out.set rfl _).set rfl _).set rfl _
        · have hd := decide_eq_false hs
          have e2 : wrap64 (a0.tmod 4 + 1) = a0.tmod 4 + 1 := by unfold wrap64; omega
          go_wp2_with fail
          refine ⟨⟨1, rk a0, y, rfl, by decide, ?_, fun _ => rfl, fun h => absurd h (by decide), ?_⟩, by simp [intOf]⟩
          · have er : rk a0 = a0.tmod 4 + 1 := by unfold rk; rw [if_neg hs]
            rw [er]
            exact row2_set0 (row2_set0 Hrw.out)
          · exact (Hm.out.set rfl _).set rfl _
      · by_cases hs : a1.tmod 4 < 0
        · have hd := decide_eq_true hs
          have e1 : wrap64 (-(a1.tmod 4)) = -(a1.tmod 4) := by unfold wrap64; omega
          have e2 : wrap64 (-(a1.tmod 4) + 1) = -(a1.tmod 4) + 1 := by unfold wrap64; omega
          go_wp2_with fail
          refine ⟨⟨2, x, rk a1, rfl, by decide, ?_, fun _ => Hx.out (by decide), fun _ => rfl, ?_⟩, by simp [intOf]⟩
          · have er : rk a1 = -(a1.tmod 4) + 1 := by unfold rk; rw [if_pos hs]
            rw [er]
            exact row2_set1 (row2_set1 (row2_set1 Hrw.out))
          · exact ((Hm.out.set rfl _).set rfl _).set rfl _
        · have hd := decide_eq_false hs
          have e2 : wrap64 (a1.tmod 4 + 1) = a1.tmod 4 + 1 := by unfold wrap64; omega
          go_wp2_with fail
          refine ⟨⟨2, x, rk a1, rfl, by decide, ?_, fun _ => Hx.out (by decide), fun _ => rfl, ?_⟩, by simp [intOf]⟩
          · have er : rk a1 = a1.tmod 4 + 1 := by unfold rk; rw [if_neg hs]
            rw [er]
            exact row2_set1 (row2_set1 Hrw.out)
          · exact (Hm.out.set rfl _).set rfl _
      · have hx := Hx.out (by decide)
        have hy := Hy.out (by decide)
        rw [hx] at r0
        rw [hy] at r1
        have hrow := Hrw.out
        rw [hx, hy] at hrow
        have M1 := Lib.hid (M0.out.turn Hm.out (fun j hj => by subst hj; exact ⟨by omega, hrn⟩))
        have hz3 := Hm.out.size
        have Hrow1 := Lib.hid hrow
        clear hx hy Hx Hy Hrw hrow bm0 bm1 p0 p1 f0 f1 r0 r1 M0 Hm Hrow Hpb0
        generalize rk a0 = r0 at *
        generalize rk a1 = r1 at *
        go_wp2_with fail
        refine (entry_any 97 97 u _ rfl).mono ?_
        rintro r w3 ⟨rva, rfl, hoa, hb⟩
        obtain ⟨Aa, capa, rfl⟩ := hoa.shape
        have Hoa := Lib.hid hoa
        have Hb3 := Lib.hid hb
        have hz4 := hb.size
        have hr3 := (hb.block _ (by omega)).trans Hrow1.out
        have q0 : w3.cell? ⟨rb, 0, none⟩ = some (.int .i64 r0) := by simp [World.cell?, hr3]
        have Hrow3 := Lib.hid hr3
        have hl3 : rb < w3.heap.size := by omega
        clear hoa hb hr3 Hrow1
        dsimp only [Ent.val, entE]
        go_wp2_with fail
        have hn5 : wrap64 (now + 5) = now + 5 := by unfold wrap64; omega
        refine (entry_any 97 97 _ _ rfl).mono ?_
        rintro r w4 ⟨rvb, rfl, hob, hb⟩
        obtain ⟨Ab, capb, rfl⟩ := hob.shape
        have hA4 : w4.heap[w3.heap.size]? = some (.cells #[.int .i64 1, .string (bs [1, 97, 0]), .int .u16 1, .int .u16 1, .slice Aa 1 capa, .int .i64 u, .int .i64 r0, .int .i64 0, .int .i64 0] 25 (0, 0)) := (hb.block _ (by simp)).trans (heap_alloc_new _ _)
        have hbw : Below w3.heap.size w3 w4 := bel_call (by go_grown) hb
        have hz5 := hb.size
        rw [World.size_alloc] at hz5
        have Hb4 := Lib.hid (bel_call Hb3.out hbw)
        have M4 := Lib.hid (M1.out.step Hb4.out)
        have Hoa4 := Lib.hid (Hoa.out.below hbw)
        have Hob := Lib.hid hob
        have Hrow4 := Lib.hid ((hbw.block _ hl3).trans Hrow3.out)
        obtain ⟨z0, z1, z2, z3, z4, z5, z6, z7, z8⟩ := ent_cells (e := entE 97 u r0 0) hA4
        dsimp only [entE] at z0 z1 z2 z3 z5 z6 z7 z8
        have q1 : w4.cell? ⟨rb, 1, none⟩ = some (.int .i64 r1) := by have := Hrow4.out; simp [World.cell?, this]
        have hl4 : rb < w4.heap.size := by omega
        have hl5 : w3.heap.size < w4.heap.size := by omega
        have hk : w.heap.size ≤ w3.heap.size := by omega
        clear hbw hb hob hA4 Hoa Hrow3 q0 Hb3
        dsimp only [Ent.val, entE]
        go_wp2_with fail
        have hp1 : putB (entE 97 u r0 0) 0 [] = true := putB_true (cchk_one 97 h0 (by omega) b0 b1) h0 (fun x hx => by cases hx)
        have hP1 : putR 5 0 (entE 97 u r0 0) [] = [entE 97 u r0 0] := putR_room hp1 (fun x hx => by cases hx) (by decide)
        have hsz4 : (w4.alloc (.cells #[.int .i64 1, .string (bs [1, 97, 0]), .int .u16 1, .int .u16 1, .slice Ab 1 capb, .int .i64 (now + 5), .int .i64 r1, .int .i64 0, .int .i64 7] 25)).heap[w4.heap.size]? = some (.cells #[.int .i64 1, .string (bs [1, 97, 0]), .int .u16 1, .int .u16 1, .slice Ab 1 capb, .int .i64 (now + 5), .int .i64 r1, .int .i64 0, .int .i64 7] 25 (0, 0)) := heap_alloc_new _ _
        have hbx : Below w4.heap.size w4 (w4.alloc (.cells #[.int .i64 1, .string (bs [1, 97, 0]), .int .u16 1, .int .u16 1, .slice Ab 1 capb, .int .i64 (now + 5), .int .i64 r1, .int .i64 0, .int .i64 7] 25)) := (Below.refl _ _).alloc (Nat.le_refl _) _
        have hsz5 : (w4.alloc (.cells #[.int .i64 1, .string (bs [1, 97, 0]), .int .u16 1, .int .u16 1, .slice Ab 1 capb, .int .i64 (now + 5), .int .i64 r1, .int .i64 0, .int .i64 7] 25)).heap.size = w4.heap.size + 1 := by simp
        generalize w4.alloc (.cells #[.int .i64 1, .string (bs [1, 97, 0]), .int .u16 1, .int .u16 1, .slice Ab 1 capb, .int .i64 (now + 5), .int .i64 r1, .int .i64 0, .int .i64 7] 25) = w5 at *
        have hf4 : ¬ c2.own w4.heap.size := M4.out.far (Nat.le_refl _)
        have hf5 : w.heap.size ≤ w4.heap.size := by omega
        refine (put_mine M1.out (entE 97 u r0 0) (.slice Aa 1 capa) 0 w5 _ rfl hp1 (bel_call Hb4.out hbx) (entIn_one _ _ _ _) (Hoa4.out.below hbx) (Nat.le_refl _) (by decide)).mono ?_
        rintro r w6 ⟨rfl, c6, hM, ha⟩
        rw [hP1] at hM
        have hk6 := ha.still (k := w4.heap.size) (by omega) hf4
        have hr6 := ha.still (k := rb) (by omega) hrn
        have hB6 := hk6.1.trans hsz4
        have hR6 := hr6.1.trans ((hbx.block _ hl4).trans Hrow4.out)
        have M6 := Lib.hid hM
        have hob5 := Hob.out.below hbx
        obtain ⟨ho6, hn6⟩ := hob5.past ha (fun k hk q => by
          have h1 := (own_cells hob5 k hk).1
          have h2 := (M1.out.at'.own_lt q).2
          rw [World.size_alloc] at h1
          omega)
        have Ho6 := Lib.hid ho6
        have Hn6 := Lib.hid hn6
        have Hr6 := Lib.hid hR6
        have hr6n := hr6.2.1
        have hr6l := hr6.2.2
        obtain ⟨y0, y1, y2, y3, y4, y5, y6, y7, y8⟩ := ent_cells (e := entE 97 (now + 5) r1 7) hB6
        dsimp only [entE] at y0 y1 y2 y3 y5 y6 y7 y8
        clear hob5 ho6 hn6 hR6 hr6 hk6 hB6 hM ha M1 M4 Hob Hoa4 Hrow4 Hb4 z0 z1 z2 z3 z4 z5 z6 z7 z8 q1 hl3 hl4 hl5 hk hbx hsz4 hsz5 hp1 hP1 hn5 hf4 hf5
        go_wp2_with fail
        refine (put_mine' M6.out (entE 97 (now + 5) r1 7) (.slice Ab 1 capb) now w6 _ rfl HT.out.put (Below.refl _ _) (entIn_one _ _ _ _) Ho6.out.at Hn6.out (by decide)).mono ?_
        rintro r w7 ⟨rfl, c7, hM, ha⟩
        rw [HT.out.putR] at hM
        have hr7 := ha.still hr6l hr6n
        have Hr7 := Lib.hid (hr7.1.trans Hr6.out)
        have hr7n := hr7.2.1
        have hr7l := hr7.2.2
        have M7 := Lib.hid hM
        clear hM ha hr7 Hr6 M6 Ho6 Hn6 hr6n hr6l y0 y1 y2 y3 y4 y5 y6 y7 y8
        go_wp2_with fail
        refine (get_some M7.out _ 1 1 now _ lsta HT.out.get (Below.refl _ _) (by decide) (by decide) (by decide) (by decide) (by decide) (by decide)).mono ?_
        rintro r w8 ⟨c8, rv8, hM, ha, rfl, ho⟩
        have hr8 := ha.still hr7l hr7n
        have hR8 := hr8.1.trans Hr7.out
        have q0 : w8.cell? ⟨rb, 0, none⟩ = some (.int .i64 r0) := by simp [World.cell?, hR8]
        have q1 : w8.cell? ⟨rb, 1, none⟩ = some (.int .i64 r1) := by simp [World.cell?, hR8]
        have hr8l := hr8.2.2
        obtain ⟨A8, cap8, rfl⟩ := ho.shape
        have M8 := Lib.hid hM
        clear hM ha hr8 hR8 Hr7 M7 ho hr7n hr7l
        dsimp only [Ent.val]
        go_upto_region 23 with fail
        obtain ⟨w9, hw9⟩ : ∃ w9, w9 = w8.alloc (.cells #[.int .i64 E.kind, .string (bs E.name), .int .u16 E.t, .int .u16 E.c, .slice A8 E.recs.length cap8, .int .i64 E.til, .int .i64 E.rank, .int .i64 E.epoch, .int .i64 E.source] 25) := ⟨_, rfl⟩
        rw [← hw9]
        have hb9 : Below w8.heap.size w8 w9 := by rw [hw9]; exact (Below.refl _ _).alloc (Nat.le_refl _) _
        have hn9 : w9.heap[w8.heap.size]? = some (.cells #[.int .i64 E.kind, .string (bs E.name), .int .u16 E.t, .int .u16 E.c, .slice A8 E.recs.length cap8, .int .i64 E.til, .int .i64 E.rank, .int .i64 E.epoch, .int .i64 E.source] 25 (0, 0)) := by rw [hw9]; exact heap_alloc_new _ _
        have s8 : w9.cell? ⟨w8.heap.size, 8, none⟩ = some (.int .i64 E.source) := by simp [World.cell?, hn9]
        have q0' := (hb9.cell (blk_of_cell q0)).trans q0
        have q1' := (hb9.cell (blk_of_cell q1)).trans q1
        have hsrc := HT.out.src
        have hcmp := HT.out.cmp
        have Hb9 := Lib.hid hb9
        have Hcmp := Lib.hid hcmp
        clear hw9 hb9 hn9 q0 q1 hcmp
        go_cut [17] (fun v wx => w9 = wx ∧ v = .bool t)
        case first =>
          clear s8 hsrc
          by_cases g1 : u < now
          · have e1 := decide_eq_true g1
            have G1 := Lib.hid g1
            clear g1
            go_wp2_with fail
            go_meet
            exact ⟨rfl, by rw [← Hcmp.out, decide_eq_true G1.out]; rfl⟩
          · have e1 := decide_eq_false g1
            have G1 := Lib.hid e1
            clear g1
            go_wp2_with fail
            go_meet
            exact ⟨rfl, by rw [← Hcmp.out, G1.out]; rfl⟩
        case rest =>
          obtain ⟨rfl, rfl⟩ := hcut
          clear q0' q1'
          go_wp2_with fail
          have hl := len_mine M8.out w9 Hb9.out
          rw [getL_len (L := [E]) (by simp)] at hl
          have Hl := Lib.hid hl
          clear hl
          refine Hl.out.mono ?_
          rintro r w10 ⟨rfl, rfl⟩
          dsimp only [List.length_cons, List.length_nil]
          go_wp2_with fail
          go_ret
          exact ⟨rfl, (M8.out.step Hb9.out).below⟩
end Go.Proofs.Ytihfapnipifiiaa
