/- The walk of CacheChecks. -/
import Derived.Test.YtihfapnipifiiaaAwake
import Derived.Test.YtihfapnipifiiaaSmall16
import Derived.Test.YtihfapnipifiiaaRef16
import Derived.Test.YtihfapnipifiiaaRCheck16
import Derived.Deep.DeepCutAuto
import Derived.Deep.RegionHeld3
import Derived.Handy
set_option linter.unusedVariables false
set_option linter.unusedSimpArgs false
namespace Go.Proofs.Ytihfapnipifiiaa
open Go Go.RowKit Go.Shelf

set_option maxRecDepth 100000 in
set_option maxHeartbeats 8000000 in
theorem checks_any (a b : Ent) (ra rb : Value) (w : World) (hra : RecsAt w ra a.recs) (wa : a.wf) (hrb : RecsAt w rb b.recs) (wb : b.wf) :
    Calls Try.prog 3 #[a.val ra, b.val rb] w fun r w' => r = .returned (.bool true) ∧ Below w.heap.size w w' := by
  obtain ⟨A, hA⟩ : ∃ E, E = smallE 100 a := ⟨_, rfl⟩
  obtain ⟨B, hB⟩ : ∃ E, E = smallE 100 b := ⟨_, rfl⟩
  have hiA : EntIn A := by rw [hA]; exact smallE_in wa (by decide)
  have hiB : EntIn B := by rw [hB]; exact smallE_in wb (by decide)
  have hsa := fun W (h : RecsAt W ra a.recs) => small16_any a ra W h wa
  have hsb := fun W (h : RecsAt W rb b.recs) => small16_any b rb W h wb
  simp only [← hA] at hsa
  simp only [← hB] at hsb
  have HiA := Lib.hid hiA
  have HiB := Lib.hid hiB
  have Hsa := Lib.hid hsa
  have Hsb := Lib.hid hsb
  have Hra := Lib.hid hra
  have Hrb := Lib.hid hrb
  obtain ⟨W1, hW1⟩ : ∃ W, W = (w.alloc (.cells #[.int .i64 a.kind, .string (bs a.name), .int .u16 a.t, .int .u16 a.c, ra, .int .i64 a.til, .int .i64 a.rank, .int .i64 a.epoch, .int .i64 a.source] 25)).alloc (.cells #[.int .i64 b.kind, .string (bs b.name), .int .u16 b.t, .int .u16 b.c, rb, .int .i64 b.til, .int .i64 b.rank, .int .i64 b.epoch, .int .i64 b.source] 25) := ⟨_, rfl⟩
  have hb1 : Below w.heap.size w W1 := by rw [hW1]; exact (((Below.refl _ w).alloc (Nat.le_refl _) _).alloc (by simp) _)
  have hka : EntBox W1 w.heap.size a ra := by rw [hW1]; exact (EntBox.new w a ra).below ((Below.refl _ _).alloc (Nat.le_refl _) _)
  have hkb : EntBox W1 (w.heap.size + 1) b rb := by
    rw [hW1]; have := EntBox.new (w.alloc (.cells #[.int .i64 a.kind, .string (bs a.name), .int .u16 a.t, .int .u16 a.c, ra, .int .i64 a.til, .int .i64 a.rank, .int .i64 a.epoch, .int .i64 a.source] 25)) b rb
    rw [World.size_alloc] at this; exact this
  have HW1 := Lib.hid hW1
  have Hb1 := Lib.hid hb1
  have Hka := Lib.hid hka
  have Hkb := Lib.hid hkb
  clear hA hB hiA hiB hsa hsb hra hrb hW1 hb1 hka hkb wa wb
  unfold Ent.val
  go_enter Try.func3, Try.ntmps3
  go_wp2_with fail
  rw [← HW1.out]
  refine (awake_any _).mono ?_
  rintro r w1 ⟨rfl, hb⟩
  have hbw := bel_call Hb1.out hb
  have Hbw := Lib.hid hbw
  have Hka1 := Lib.hid (Hka.out.below hb)
  have Hkb1 := Lib.hid (Hkb.out.below hb)
  clear hb hbw HW1 Hb1 Hka Hkb
  go_upto_region 2 with fail
  go_cut [] (fun wx => ∃ rv', EntBox wx (w.heap.size) A rv' ∧ (∃ S, w.heap.size + 2 ≤ S ∧ RecsOwn wx S rv' A.recs) ∧ EntBox wx (w.heap.size + 1) b rb ∧ Below w.heap.size w wx ∧ w.heap.size + 2 ≤ wx.heap.size)
  case first =>
    have hz1 := Hkb1.out.lt
    obtain ⟨x0, x1, x2, x3, x4, x5, x6, x7, x8⟩ := Hka1.out.cells
    go_wp2_with fail
    refine (Hsa.out w1 (Hra.out.below Hbw.out)).mono ?_
    rintro r w5 ⟨rv', rfl, ho, hb⟩
    have hbox := Hka1.out.below hb
    obtain ⟨g0, g1, g2, g3, g4, g5, g6, g7, g8⟩ := hbox.free
    obtain ⟨x0, x1, x2, x3, x4, x5, x6, x7, x8⟩ := hbox.cells
    obtain ⟨A5, cap5, rfl⟩ := ho.shape
    have hset := hbox.set A (.slice A5 A.recs.length cap5)
    have Hset := Lib.hid hset
    have Ho := Lib.hid ho
    have Hb5 := Lib.hid hb
    have hz := hb.size
    have Hb6 := Lib.hid (bel_call Hbw.out hb)
    clear hset ho hbox hb
    unfold Ent.val
    go_wp2_with fail
    go_meet
    have hm := Hset.out.2
    refine ⟨_, Hset.out.1, ⟨_, by omega, Ho.out.same (fun k cur hk hc => hm.block k (Array.getElem?_eq_some_iff.1 hc).1 ?_)⟩, ?_, ModS.below_of Hb6.out hm (by omega) (fun k hk => by omega), by have := hm.size; omega⟩
    · have := (own_cells Ho.out k hk).1
      omega
    · exact (hm.block _ (by omega) (by omega)).trans (Hkb1.out.below Hb5.out)
  case rest =>
  obtain ⟨rv', h1, h2, h3, h4, h5⟩ := hcut
  obtain ⟨Aa, capa, rfl⟩ := h2.choose_spec.2.shape
  have Hka2 := Lib.hid h1
  have Hrow2 := Lib.hid h2
  have Hkb2 := Lib.hid h3
  have Hbw2 := Lib.hid h4
  clear h1 h2 h3 h4 Hka1 Hkb1 Hbw Hsa Hra
  generalize wc = w2 at *
  have Hbw := Lib.hid Hbw2.out
  clear Hbw2
  go_upto_region 3 with fail
  go_cut [] (fun wx => ∃ rv', EntBox wx (w.heap.size + 1) B rv' ∧ (∃ S, w.heap.size + 2 ≤ S ∧ RecsOwn wx S rv' B.recs) ∧ EntBox wx (w.heap.size) A (.slice Aa A.recs.length capa) ∧ RecsAt wx (.slice Aa A.recs.length capa) A.recs ∧ Below w.heap.size w wx ∧ w.heap.size + 2 ≤ wx.heap.size)
  case first =>
    have hz1 := Hkb2.out.lt
    obtain ⟨x0, x1, x2, x3, x4, x5, x6, x7, x8⟩ := Hkb2.out.cells
    go_wp2_with fail
    refine (Hsb.out w2 (Hrb.out.below Hbw.out)).mono ?_
    rintro r w5 ⟨rv', rfl, ho, hb⟩
    have hbox := Hkb2.out.below hb
    obtain ⟨g0, g1, g2, g3, g4, g5, g6, g7, g8⟩ := hbox.free
    obtain ⟨x0, x1, x2, x3, x4, x5, x6, x7, x8⟩ := hbox.cells
    obtain ⟨A5, cap5, rfl⟩ := ho.shape
    have hset := hbox.set B (.slice A5 B.recs.length cap5)
    have Hset := Lib.hid hset
    have Ho := Lib.hid ho
    have Hb5 := Lib.hid hb
    have hz := hb.size
    have Hb6 := Lib.hid (bel_call Hbw.out hb)
    clear hset ho hbox hb
    unfold Ent.val
    go_wp2_with fail
    go_meet
    have hm := Hset.out.2
    refine ⟨_, Hset.out.1, ⟨_, by omega, Ho.out.same (fun k cur hk hc => hm.block k (Array.getElem?_eq_some_iff.1 hc).1 ?_)⟩, ?_, ?_, ModS.below_of Hb6.out hm (by omega) (fun k hk => by omega), by have := hm.size; omega⟩
    · have := (own_cells Ho.out k hk).1
      omega
    · exact (hm.block _ (by omega) (by omega)).trans (Hka2.out.below Hb5.out)
    · obtain ⟨S, hS, hrow⟩ := Hrow2.out
      refine ((hrow.below Hb5.out).same (fun k cur hk hc => hm.block k (Array.getElem?_eq_some_iff.1 hc).1 ?_)).at
      have := (own_cells (hrow.below Hb5.out) k hk).1
      omega
  case rest =>
  obtain ⟨rv', h1, ⟨S, _, h2⟩, h3, h3', h4, h5⟩ := hcut
  obtain ⟨Ab, capb, rfl⟩ := h2.shape
  generalize wc = w3 at *
  have hrA := fun W (h : Below w3.heap.size w3 W) => RecsAt.below h3' h
  have hrB := fun W (h : Below w3.heap.size w3 W) => RecsAt.below h2.at h
  have c1 := fun W (h : Below w3.heap.size w3 W) => (ccheck_any A (.slice Aa A.recs.length capa) W HiA.out (hrA W h)).mono (fun _ _ q => And.intro q.1 (bel_call h q.2))
  have c3 := fun W (h : Below w3.heap.size w3 W) => (rccheck_any A (.slice Aa A.recs.length capa) W HiA.out (hrA W h)).mono (fun _ _ q => And.intro q.1 (bel_call h q.2))
  have k1 := fun W (h : Below w3.heap.size w3 W) => (ckey_any A (.slice Aa A.recs.length capa) W HiA.out).mono (fun _ _ q => And.intro q.1 (bel_call h q.2))
  have k2 := fun W (h : Below w3.heap.size w3 W) => (ckey_any B (.slice Ab B.recs.length capb) W HiB.out).mono (fun _ _ q => And.intro q.1 (bel_call h q.2))
  have k3 := fun W (h : Below w3.heap.size w3 W) => (rkey_any A (.slice Aa A.recs.length capa) W HiA.out).mono (fun _ _ q => And.intro q.1 (bel_call h q.2))
  have k4 := fun W (h : Below w3.heap.size w3 W) => (rkey_any B (.slice Ab B.recs.length capb) W HiB.out).mono (fun _ _ q => And.intro q.1 (bel_call h q.2))
  unfold Ent.val at c1 c3 k1 k2 k3 k4
  have C1 := Lib.hid c1
  have C3 := Lib.hid c3
  have K1 := Lib.hid k1
  have K2 := Lib.hid k2
  have K3 := Lib.hid k3
  have K4 := Lib.hid k4
  have hall : ∀ w', Below w3.heap.size w3 w' → (w'.cell? ⟨w.heap.size, 0, none⟩ = some (.int .i64 A.kind) ∧ w'.cell? ⟨w.heap.size, 1, none⟩ = some (.string (bs A.name)) ∧ w'.cell? ⟨w.heap.size, 2, none⟩ = some (.int .u16 A.t) ∧ w'.cell? ⟨w.heap.size, 3, none⟩ = some (.int .u16 A.c) ∧ w'.cell? ⟨w.heap.size, 4, none⟩ = some (.slice Aa A.recs.length capa) ∧ w'.cell? ⟨w.heap.size, 5, none⟩ = some (.int .i64 A.til) ∧ w'.cell? ⟨w.heap.size, 6, none⟩ = some (.int .i64 A.rank) ∧ w'.cell? ⟨w.heap.size, 7, none⟩ = some (.int .i64 A.epoch) ∧ w'.cell? ⟨w.heap.size, 8, none⟩ = some (.int .i64 A.source) ∧ w'.cell? ⟨w.heap.size + 1, 0, none⟩ = some (.int .i64 B.kind) ∧ w'.cell? ⟨w.heap.size + 1, 1, none⟩ = some (.string (bs B.name)) ∧ w'.cell? ⟨w.heap.size + 1, 2, none⟩ = some (.int .u16 B.t) ∧ w'.cell? ⟨w.heap.size + 1, 3, none⟩ = some (.int .u16 B.c) ∧ w'.cell? ⟨w.heap.size + 1, 4, none⟩ = some (.slice Ab B.recs.length capb) ∧ w'.cell? ⟨w.heap.size + 1, 5, none⟩ = some (.int .i64 B.til) ∧ w'.cell? ⟨w.heap.size + 1, 6, none⟩ = some (.int .i64 B.rank) ∧ w'.cell? ⟨w.heap.size + 1, 7, none⟩ = some (.int .i64 B.epoch) ∧ w'.cell? ⟨w.heap.size + 1, 8, none⟩ = some (.int .i64 B.source) ∧ Below w3.heap.size w3 w') := by
    intro w' hb
    obtain ⟨x0, x1, x2, x3, x4, x5, x6, x7, x8⟩ := (h1.below hb).cells
    obtain ⟨y0, y1, y2, y3, y4, y5, y6, y7, y8⟩ := (h3.below hb).cells
    exact ⟨y0, y1, y2, y3, y4, y5, y6, y7, y8, x0, x1, x2, x3, x4, x5, x6, x7, x8, hb⟩
  have Hall := Lib.hid hall
  have Hbw3 := Lib.hid h4
  have hself := Below.refl w3.heap.size w3
  have hlk : w.heap.size + 2 ≤ w3.heap.size := h5
  clear h1 h2 h3 h3' h4 hrA hrB c1 c3 k1 k2 k3 k4 hall Hsb Hrb Hka2 Hrow2 Hkb2 Hbw
  go_upto_region 4 with fail
  go_cut [6] (fun v wx => Below w3.heap.size w3 wx ∧ v = .bool ((bs A.key).toList == (bs B.key).toList))
  case first =>
    go_region_held3 (fun w' => w'.cell? ⟨w.heap.size, 0, none⟩ = some (.int .i64 A.kind) ∧ w'.cell? ⟨w.heap.size, 1, none⟩ = some (.string (bs A.name)) ∧ w'.cell? ⟨w.heap.size, 2, none⟩ = some (.int .u16 A.t) ∧ w'.cell? ⟨w.heap.size, 3, none⟩ = some (.int .u16 A.c) ∧ w'.cell? ⟨w.heap.size, 4, none⟩ = some (.slice Aa A.recs.length capa) ∧ w'.cell? ⟨w.heap.size, 5, none⟩ = some (.int .i64 A.til) ∧ w'.cell? ⟨w.heap.size, 6, none⟩ = some (.int .i64 A.rank) ∧ w'.cell? ⟨w.heap.size, 7, none⟩ = some (.int .i64 A.epoch) ∧ w'.cell? ⟨w.heap.size, 8, none⟩ = some (.int .i64 A.source) ∧ w'.cell? ⟨w.heap.size + 1, 0, none⟩ = some (.int .i64 B.kind) ∧ w'.cell? ⟨w.heap.size + 1, 1, none⟩ = some (.string (bs B.name)) ∧ w'.cell? ⟨w.heap.size + 1, 2, none⟩ = some (.int .u16 B.t) ∧ w'.cell? ⟨w.heap.size + 1, 3, none⟩ = some (.int .u16 B.c) ∧ w'.cell? ⟨w.heap.size + 1, 4, none⟩ = some (.slice Ab B.recs.length capb) ∧ w'.cell? ⟨w.heap.size + 1, 5, none⟩ = some (.int .i64 B.til) ∧ w'.cell? ⟨w.heap.size + 1, 6, none⟩ = some (.int .i64 B.rank) ∧ w'.cell? ⟨w.heap.size + 1, 7, none⟩ = some (.int .i64 B.epoch) ∧ w'.cell? ⟨w.heap.size + 1, 8, none⟩ = some (.int .i64 B.source) ∧ Below w3.heap.size w3 w') ((first | exact Hall.out _ hself.drew | exact Hall.out _ (by assumption)))
      ((first | (go_at_call 15; (first | with_reducible refine (K3.out _ ?_).mono ?_ | with_reducible refine (K4.out _ ?_).mono ?_); (· (go_split_ands; assumption)); rintro r w9 ⟨rfl, hB9⟩)))
    all_goals (go_wp2_with fail; go_meet; exact ⟨by assumption, rfl⟩)
  case rest =>
    obtain ⟨hb, rfl⟩ := hcut
    have Hb4 := Lib.hid hb
    have hB0 := hb
    clear hb
    generalize wc = w4 at *
    have hB0' : Below w3.heap.size w3 w4.drew := hB0.drew
    go_upto_region 5 with fail
    go_region_held3 (fun w' => w'.cell? ⟨w.heap.size, 0, none⟩ = some (.int .i64 A.kind) ∧ w'.cell? ⟨w.heap.size, 1, none⟩ = some (.string (bs A.name)) ∧ w'.cell? ⟨w.heap.size, 2, none⟩ = some (.int .u16 A.t) ∧ w'.cell? ⟨w.heap.size, 3, none⟩ = some (.int .u16 A.c) ∧ w'.cell? ⟨w.heap.size, 4, none⟩ = some (.slice Aa A.recs.length capa) ∧ w'.cell? ⟨w.heap.size, 5, none⟩ = some (.int .i64 A.til) ∧ w'.cell? ⟨w.heap.size, 6, none⟩ = some (.int .i64 A.rank) ∧ w'.cell? ⟨w.heap.size, 7, none⟩ = some (.int .i64 A.epoch) ∧ w'.cell? ⟨w.heap.size, 8, none⟩ = some (.int .i64 A.source) ∧ w'.cell? ⟨w.heap.size + 1, 0, none⟩ = some (.int .i64 B.kind) ∧ w'.cell? ⟨w.heap.size + 1, 1, none⟩ = some (.string (bs B.name)) ∧ w'.cell? ⟨w.heap.size + 1, 2, none⟩ = some (.int .u16 B.t) ∧ w'.cell? ⟨w.heap.size + 1, 3, none⟩ = some (.int .u16 B.c) ∧ w'.cell? ⟨w.heap.size + 1, 4, none⟩ = some (.slice Ab B.recs.length capb) ∧ w'.cell? ⟨w.heap.size + 1, 5, none⟩ = some (.int .i64 B.til) ∧ w'.cell? ⟨w.heap.size + 1, 6, none⟩ = some (.int .i64 B.rank) ∧ w'.cell? ⟨w.heap.size + 1, 7, none⟩ = some (.int .i64 B.epoch) ∧ w'.cell? ⟨w.heap.size + 1, 8, none⟩ = some (.int .i64 B.source) ∧ Below w3.heap.size w3 w') ((first | exact Hall.out _ hB0' | exact Hall.out _ (by assumption)))
      ((first | (go_at_call 16; (first | with_reducible refine (C1.out _ ?_).mono ?_); (· (go_split_ands; assumption)); rintro r w9 ⟨rfl, hB9⟩) | (go_at_call 17; (first | with_reducible refine (C3.out _ ?_).mono ?_); (· (go_split_ands; assumption)); rintro r w9 ⟨rfl, hB9⟩) | (go_at_call 18; (first | with_reducible refine (K1.out _ ?_).mono ?_ | with_reducible refine (K2.out _ ?_).mono ?_); (· (go_split_ands; assumption)); rintro r w9 ⟨rfl, hB9⟩) | (go_at_call 15; (first | with_reducible refine (K3.out _ ?_).mono ?_); (· (go_split_ands; assumption)); rintro r w9 ⟨rfl, hB9⟩)))
    all_goals (go_wp2_with fail; go_ret; exact ⟨rfl, bel_call Hbw3.out (by assumption)⟩)
end Go.Proofs.Ytihfapnipifiiaa
