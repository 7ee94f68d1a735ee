/- The walks of the statements' own 'short' and 'small' (law16). -/
import Derived.Test.YtihfapnipifiiaaOpen
import Derived.Test.YtihfapnipifiiaaMach
import Derived.Maps.AppendAt
import Derived.Handy
set_option linter.unusedVariables false
set_option linter.unusedSimpArgs false
namespace Go.Proofs.Ytihfapnipifiiaa
open Go Go.RowKit Go.Shelf

/-- A record, its texts cut. -/
def smallR (k : Nat) (r : RRec) : RRec := { r with name := r.name.take 300, data := r.data.take k }
def smallE (k : Nat) (e : Ent) : Ent := { e with name := e.name.take 300, recs := (e.recs.take 70).map (smallR k) }
theorem smallE_in {k : Nat} {e : Ent} (h : e.wf) (hk : k ≤ 1000) : EntIn (smallE k e) where
  name := by show (e.name.take 300).length ≤ _; rw [List.length_take]; omega
  recs := by
    intro r hr
    obtain ⟨q, hq, rfl⟩ := List.mem_map.1 (show r ∈ (e.recs.take 70).map (smallR k) from hr)
    have hw := (h.recs q (List.mem_of_mem_take hq)).ok
    refine ⟨⟨hw.t0, hw.t1, hw.c0, hw.c1, hw.l0, hw.l1⟩, ?_, ?_⟩
    · show (q.name.take 300).length ≤ _; rw [List.length_take]; omega
    · show (q.data.take k).length ≤ _; rw [List.length_take]; omega
  t0 := h.t0
  t1 := h.t1
  c0 := h.c0
  c1 := h.c1

theorem short16_any (s : ByteArray) (k : Nat) (w : World) (hk : k ≤ 1000) :
    Calls Try.prog 42 #[.string s, .int .i64 k] w fun e w' => e = .returned (.string (bs ((lst s).take k))) ∧ w = w' := by
  by_cases h : k < s.size
  · have hd : decide ((k : Int) < (s.size : Int)) = true := decide_eq_true (by omega)
    have hx : s.extract 0 k = bs ((lst s).take k) := by
      apply lst_inj
      rw [lst_bs]
      unfold lst
      simp
    have Hx := Lib.hid hx
    have h1 : (k : Int) ≤ (s.size : Int) := by omega
    clear hx
    go_enter Try.func42, Try.ntmps42
    go_wp2
    go_ret
    refine ⟨?_, rfl⟩
    first | rfl | (rw [Hx.out]; rfl)
  · have hd : decide ((k : Int) < (s.size : Int)) = false := decide_eq_false (by omega)
    have hx : s = bs ((lst s).take k) := by
      rw [List.take_of_length_le (by rw [lst_length]; omega), bs_lst]
    have Hx := Lib.hid hx
    clear hx
    go_enter Try.func42, Try.ntmps42
    go_wp2
    go_ret
    exact ⟨congrArg (fun x => Ending.returned (.string x)) Hx.out, rfl⟩

set_option maxRecDepth 100000 in
set_option maxHeartbeats 2000000 in
theorem small16_any (e : Ent) (rv : Value) (w : World) (hrv : RecsAt w rv e.recs) (he : e.wf) :
    Calls Try.prog 14 #[e.val rv] w fun r w' => ∃ rv', r = .returned ((smallE 100 e).val rv') ∧ RecsOwn w' w.heap.size rv' (smallE 100 e).recs ∧ Below w.heap.size w w' := by
  obtain ⟨i0, hi, hz0, hz1, hz2⟩ := info_parts info_rr
  obtain ⟨A, cap, rfl, hcap, hc⟩ := hrv
  have hlen : e.recs.length ≤ 9223372036854775807 := by have := he.len; unfold maxLen at this; omega
  have Hc := Lib.hid hc
  have Hi := Lib.hid hi
  have Hz0 := Lib.hid hz0
  have Hz1 := Lib.hid hz1
  have Hz2 := Lib.hid hz2
  clear hc he hi hz0 hz1 hz2
  unfold Ent.val
  go_enter Try.func14, Try.ntmps14
  go_wp2_with fail
  refine (short16_any _ 300 _ (by decide)).mono ?_
  rintro r w1 ⟨rfl, rfl⟩
  rw [lst_bs]
  go_wp2_with fail
  obtain ⟨W0, hW0⟩ : ∃ W0, W0 = (w.alloc (.cells #[.int .i64 e.kind, .string (bs (e.name.take 300)), .int .u16 e.t, .int .u16 e.c, .slice A e.recs.length cap, .int .i64 e.til, .int .i64 e.rank, .int .i64 e.epoch, .int .i64 e.source] 25)).alloc (.cells #[.int .i64 0, .string ⟨#[]⟩, .int .u16 0, .int .u16 0, .slice none 0 0, .int .i64 0, .int .i64 0, .int .i64 0, .int .i64 0] 25) := ⟨_, rfl⟩
  rw [← hW0]
  have hb0 : Below w.heap.size w W0 := by rw [hW0]; exact (((Below.refl _ w).alloc (Nat.le_refl _) _).alloc (by simp) _)
  have hk0 : W0.heap[w.heap.size]? = some (.cells #[.int .i64 e.kind, .string (bs (e.name.take 300)), .int .u16 e.t, .int .u16 e.c, .slice A e.recs.length cap, .int .i64 e.til, .int .i64 e.rank, .int .i64 e.epoch, .int .i64 e.source] 25 (0, 0)) := by
    rw [hW0]; exact (Below.heap_alloc _ _ _ (by simp)).trans (heap_alloc_new w _)
  have hk1 : W0.heap[w.heap.size + 1]? = some (.cells #[.int .i64 0, .string ⟨#[]⟩, .int .u16 0, .int .u16 0, .slice none 0 0, .int .i64 0, .int .i64 0, .int .i64 0, .int .i64 0] 25 (0, 0)) := by
    rw [hW0]; have := heap_alloc_new (w.alloc (.cells #[.int .i64 e.kind, .string (bs (e.name.take 300)), .int .u16 e.t, .int .u16 e.c, .slice A e.recs.length cap, .int .i64 e.til, .int .i64 e.rank, .int .i64 e.epoch, .int .i64 e.source] 25)) (.cells #[.int .i64 0, .string ⟨#[]⟩, .int .u16 0, .int .u16 0, .slice none 0 0, .int .i64 0, .int .i64 0, .int .i64 0, .int .i64 0] 25)
    rw [World.size_alloc] at this; exact this
  have hsz : W0.heap.size = w.heap.size + 2 := by rw [hW0]; simp
  have Hb0 := Lib.hid hb0
  have Hk0 := Lib.hid hk0
  have Hk1 := Lib.hid hk1
  have Hsz := Lib.hid hsz
  clear hW0 hb0 hk0 hk1 hsz
  go_loopw [3, 4, 5] (fun l_ i_ _ wr => ∃ k : Nat, i_ = .int .i64 k ∧ k ≤ e.recs.length ∧ k ≤ 70 ∧ RecsOwn wr (w.heap.size + 2) l_ ((e.recs.take k).map (smallR 100)) ∧ Below W0.heap.size W0 wr) (fun _ i_ _ _ => e.recs.length - (intOf i_).toNat)
  case atStart =>
    exact ⟨0, rfl, Nat.zero_le _, by decide, ⟨rfl, .inl ⟨rfl, rfl⟩⟩, Below.refl _ _⟩
  case round =>
    obtain ⟨k, rfl, hk, hk70, hown, hB⟩ := hrel
    obtain ⟨rs, hrs⟩ : ∃ rs, rs = (e.recs.take k).map (smallR 100) := ⟨_, rfl⟩
    have hrl : rs.length = k := by rw [hrs, List.length_map, List.length_take]; omega
    rw [← hrs] at hown
    have Hrs := Lib.hid hrs
    have Hrl := Lib.hid hrl
    have hrb : rs.length ≤ 70 := by omega
    clear hrs hrl
    obtain ⟨A1, cap1, rfl⟩ := hown.shape
    have hz := hB.size
    have HB := Lib.hid hB
    have Hown := Lib.hid hown
    have hb := (hB.block _ (by rw [Hsz.out]; omega)).trans Hk0.out
    have hb1 := (hB.block _ (by rw [Hsz.out]; omega)).trans Hk1.out
    have hz2 : w.heap.size + 2 ≤ wr.heap.size := by have := Hsz.out; omega
    have HB0 := Lib.hid hb
    have HB1 := Lib.hid hb1
    have x4 : wr.cell? ⟨w.heap.size, 4, none⟩ = some (.slice A e.recs.length cap) := by simp [World.cell?, hb]
    clear hB hown hb hb1
    by_cases hlt : k < e.recs.length ∧ k < 70
    · obtain ⟨hlt1, hlt2⟩ := hlt
      obtain ⟨r, hr⟩ : ∃ r, e.recs[k]? = some r := ⟨_, List.getElem?_eq_getElem hlt1⟩
      obtain ⟨b, off, hA, hcells⟩ : ∃ b off, A = some ⟨b, off, none⟩ ∧ ∀ i r, e.recs[i]? = some r → ∀ j u, r.cells[j]? = some u → w.cell? ⟨b, off + i * 5 + j, none⟩ = some u := by
        rcases Hc.out with h | h
        · rw [h] at hlt1; exact absurd hlt1 (Nat.not_lt_zero _)
        · exact h
      subst hA
      have hcw : ∀ j u, r.cells[j]? = some u → wr.cell? ⟨b, off + k * 5 + j, none⟩ = some u := fun j u hj => by
        have h1 := hcells k r hr j u hj
        have h2 := (Hb0.out.cell (blk_of_cell h1)).trans h1
        exact (HB.out.cell (blk_of_cell h2)).trans h2
      have q0 : wr.cell? ⟨b, off + k * 5, none⟩ = some (.string (bs r.name)) := hcw 0 _ rfl
      have q1 : wr.cell? ⟨b, off + k * 5 + 1, none⟩ = some (.int .u16 r.t) := hcw 1 _ rfl
      have q2 : wr.cell? ⟨b, off + k * 5 + 2, none⟩ = some (.int .u16 r.c) := hcw 2 _ rfl
      have q3 : wr.cell? ⟨b, off + k * 5 + 3, none⟩ = some (.int .u32 r.ttl) := hcw 3 _ rfl
      have q4 : wr.cell? ⟨b, off + k * 5 + 4, none⟩ = some (.string (bs r.data)) := hcw 4 _ rfl
      have d1 : decide ((k : Int) < (e.recs.length : Int)) = true := decide_eq_true (by omega)
      have d2 : decide ((k : Int) < 70) = true := decide_eq_true (by omega)
      have Hr := Lib.hid hr
      clear hcells hcw hr
      go_wp2_with fail
      refine (short16_any _ 300 _ (by decide)).mono ?_
      rintro r1 w2 ⟨rfl, rfl⟩
      rw [lst_bs]
      go_wp2_with fail
      have hone : ∀ W, Below wr.heap.size wr W → ∀ B, W.heap[B]? = some (.cells #[.string (bs (r.name.take 300)), .int .u16 r.t, .int .u16 r.c, .int .u32 r.ttl, .string (bs (r.data.take 100))] 56 (0, 0)) → (∀ j u, (smallR 100 r).cells[j]? = some u → W.cell? ((⟨B, 0, none⟩ : Addr).add j) = some u) ∧ RecsOwn W (w.heap.size + 2) (.slice A1 rs.length cap1) rs := by
        intro W hb B hB
        refine ⟨fun j u hj => ?_, Hown.out.below hb⟩
        have ea : (⟨B, 0, none⟩ : Addr).add j = ⟨B, j, none⟩ := by
          unfold Addr.add
          split
          · next h => subst h; rfl
          · simp
        rw [ea]
        simp only [World.cell?, hB]
        have : ((smallR 100 r).cells).toArray[j]? = some u := by simpa using hj
        exact this
      have Hone := Lib.hid hone
      clear hone
      refine (short16_any _ 100 _ (by decide)).mono ?_
      rintro r1 w2 ⟨rfl, rfl⟩
      rw [lst_bs]
      go_wp2_with (at_builtin; refine wpList_append_own_at (P := Try.prog) _ rfl _ _ 23 rfl (w.heap.size + 2) 56 i0 (.agg #[.string ⟨#[]⟩, .int .u16 0, .int .u16 0, .int .u32 0, .string ⟨#[]⟩]) 5 40 Try.underlying23 Hi.out Hz0.out Hz1.out Hz2.out rfl (by decide) _ rs.length (rowL rs) rfl ?c0 ⟨wr.heap.size + 1, 0, none⟩ 1 1 (smallR 100 r).cells rfl rfl ?c1 ?c2 ?c3 ?c4 ?c5 ?_)
      case c0 => exact Hown.out.below (by go_grown)
      case c1 => exact (Hone.out _ (by go_grown) _ (by have := heap_alloc_new (wr.alloc (.cells #[.string (bs (r.name.take 300)), .int .u16 r.t, .int .u16 r.c, .int .u32 r.ttl, .string (bs (r.data.take 100))] 56)) (.cells #[.string (bs (r.name.take 300)), .int .u16 r.t, .int .u16 r.c, .int .u32 r.ttl, .string (bs (r.data.take 100))] 56); rw [World.size_alloc] at this; exact this)).1
      case c2 => intro u hu; exact rowL_one [smallR 100 r] u (by simpa [rowL] using hu)
      case c3 => unfold maxLen; omega
      case c4 => omega
      case c5 => simp; omega
      intro v' w' hown' hgrow _ _
      have hm : ModS (fun j => (Value.slice A1 rs.length cap1).ownBlock = some j) ((wr.alloc (.cells #[.string (bs (r.name.take 300)), .int .u16 r.t, .int .u16 r.c, .int .u32 r.ttl, .string (bs (r.data.take 100))] 56)).alloc (.cells #[.string (bs (r.name.take 300)), .int .u16 r.t, .int .u16 r.c, .int .u32 r.ttl, .string (bs (r.data.take 100))] 56)) w' := (ModS.refl _ _).grown hgrow (fun j e => e)
      have hB' : Below W0.heap.size W0 w' := by
        refine ModS.below_of (bel_call HB.out (by go_grown)) hm (by simp; omega) (fun j hj => ?_)
        have := (own_cells Hown.out j hj).1
        have := Hsz.out
        omega
      have hrow : RecsOwn w' (w.heap.size + 2) v' ((e.recs.take (k + 1)).map (smallR 100)) := by
        have e1 : (e.recs.take (k + 1)).map (smallR 100) = rs ++ [smallR 100 r] := by
          rw [List.take_add_one, Hr.out, Hrs.out]; simp
        unfold RecsOwn
        rw [e1]
        have e2 : rowL (rs ++ [smallR 100 r]) = rowL rs ++ (smallR 100 r).cells := by
          unfold rowL; simp
        rw [e2, List.length_append]
        exact hown'
      have Hrow := Lib.hid hrow
      have HB' := Lib.hid hB'
      clear hm hB' hrow hown' hgrow
      go_wp2_with fail
      go_roundw
      case rel => exact ⟨k + 1, rfl, by omega, by omega, Hrow.out, HB'.out⟩
      case measure => simp [intOf]; omega
    · have hb0 := HB0.out
      have hb1 := HB1.out
      have x0 : wr.cell? ⟨w.heap.size, 0, none⟩ = some (.int .i64 e.kind) := by simp [World.cell?, hb0]
      have x1 : wr.cell? ⟨w.heap.size, 1, none⟩ = some (.string (bs (e.name.take 300))) := by simp [World.cell?, hb0]
      have x2 : wr.cell? ⟨w.heap.size, 2, none⟩ = some (.int .u16 e.t) := by simp [World.cell?, hb0]
      have x3 : wr.cell? ⟨w.heap.size, 3, none⟩ = some (.int .u16 e.c) := by simp [World.cell?, hb0]
      have x4 : wr.cell? ⟨w.heap.size, 4, none⟩ = some (.slice A e.recs.length cap) := by simp [World.cell?, hb0]
      have x5 : wr.cell? ⟨w.heap.size, 5, none⟩ = some (.int .i64 e.til) := by simp [World.cell?, hb0]
      have x6 : wr.cell? ⟨w.heap.size, 6, none⟩ = some (.int .i64 e.rank) := by simp [World.cell?, hb0]
      have x7 : wr.cell? ⟨w.heap.size, 7, none⟩ = some (.int .i64 e.epoch) := by simp [World.cell?, hb0]
      have x8 : wr.cell? ⟨w.heap.size, 8, none⟩ = some (.int .i64 e.source) := by simp [World.cell?, hb0]
      have g4 : wr.frozen? ⟨w.heap.size, 4, none⟩ = false := by simp [World.frozen?, hb0]
      have z0 : wr.cell? ⟨w.heap.size + 1, 0, none⟩ = some (.int .i64 0) := by simp [World.cell?, hb1]
      have f0 : wr.frozen? ⟨w.heap.size + 1, 0, none⟩ = false := by simp [World.frozen?, hb1]
      have z1 : wr.cell? ⟨w.heap.size + 1, 1, none⟩ = some (.string ⟨#[]⟩) := by simp [World.cell?, hb1]
      have f1 : wr.frozen? ⟨w.heap.size + 1, 1, none⟩ = false := by simp [World.frozen?, hb1]
      have z2 : wr.cell? ⟨w.heap.size + 1, 2, none⟩ = some (.int .u16 0) := by simp [World.cell?, hb1]
      have f2 : wr.frozen? ⟨w.heap.size + 1, 2, none⟩ = false := by simp [World.frozen?, hb1]
      have z3 : wr.cell? ⟨w.heap.size + 1, 3, none⟩ = some (.int .u16 0) := by simp [World.cell?, hb1]
      have f3 : wr.frozen? ⟨w.heap.size + 1, 3, none⟩ = false := by simp [World.frozen?, hb1]
      have z4 : wr.cell? ⟨w.heap.size + 1, 4, none⟩ = some (.slice none 0 0) := by simp [World.cell?, hb1]
      have f4 : wr.frozen? ⟨w.heap.size + 1, 4, none⟩ = false := by simp [World.frozen?, hb1]
      have z5 : wr.cell? ⟨w.heap.size + 1, 5, none⟩ = some (.int .i64 0) := by simp [World.cell?, hb1]
      have f5 : wr.frozen? ⟨w.heap.size + 1, 5, none⟩ = false := by simp [World.frozen?, hb1]
      have z6 : wr.cell? ⟨w.heap.size + 1, 6, none⟩ = some (.int .i64 0) := by simp [World.cell?, hb1]
      have f6 : wr.frozen? ⟨w.heap.size + 1, 6, none⟩ = false := by simp [World.frozen?, hb1]
      have z7 : wr.cell? ⟨w.heap.size + 1, 7, none⟩ = some (.int .i64 0) := by simp [World.cell?, hb1]
      have f7 : wr.frozen? ⟨w.heap.size + 1, 7, none⟩ = false := by simp [World.frozen?, hb1]
      have z8 : wr.cell? ⟨w.heap.size + 1, 8, none⟩ = some (.int .i64 0) := by simp [World.cell?, hb1]
      have f8 : wr.frozen? ⟨w.heap.size + 1, 8, none⟩ = false := by simp [World.frozen?, hb1]
      have hk1 : e.recs.take k = e.recs.take 70 := by
        by_cases h : k = 70
        · rw [h]
        · have h1 : k = e.recs.length := by omega
          rw [List.take_of_length_le (by omega), List.take_of_length_le (by omega)]
      have hrec : RecsOwn wr (w.heap.size + 2) (.slice A1 rs.length cap1) (smallE 100 e).recs := by
        unfold smallE
        rw [← hk1, ← Hrs.out]; exact Hown.out
      have Hrec := Lib.hid hrec
      have hlen1 : (smallE 100 e).recs.length = rs.length := by unfold smallE; rw [← hk1, Hrs.out]
      have Hlen1 := Lib.hid hlen1
      have hkk : rs.length ≤ 70 ∧ (rs.length : Int) ≤ 70 := by omega
      clear hrec hk1 hlen1 hb0 hb1 Hown
      have fin : ∀ W, W.heap.size = wr.heap.size ∧ ModS (fun j => j = w.heap.size ∨ j = w.heap.size + 1) wr W → RecsOwn W w.heap.size (.slice A1 rs.length cap1) (smallE 100 e).recs ∧ Below w.heap.size w W := by
        rintro W ⟨_, hm⟩
        refine ⟨(Hrec.out.same (fun j cur hj hc => hm.block j (Array.getElem?_eq_some_iff.1 hc).1 ?_)).mono (by omega), ?_⟩
        · have := (own_cells Hrec.out j hj).1
          omega
        · exact ModS.below_of (Hb0.out.trans (HB.out.mono (by have := Hsz.out; omega))) hm (by omega) (fun j hj => by omega)
      have Fin := Lib.hid fin
      clear fin
      by_cases h1 : k < e.recs.length
      · have d1 : decide ((k : Int) < (e.recs.length : Int)) = true := decide_eq_true (by omega)
        have d2 : decide ((k : Int) < 70) = false := decide_eq_false (by omega)
        go_wp2_with fail
        exact bodyPost_ret (v := .agg #[.int .i64 e.kind, .string (bs (e.name.take 300)), .int .u16 e.t, .int .u16 e.c, .slice A1 rs.length cap1, .int .i64 e.til, .int .i64 e.rank, .int .i64 e.epoch, .int .i64 e.source]) (by simp [results, Try.results14, go_sem, z0, z1, z2, z3, z4, z5, z6, z7, z8]) rfl ⟨.slice A1 rs.length cap1, rfl, Fin.out _ ⟨by simp [World.setCell], (((((((((((ModS.refl (fun j => j = w.heap.size ∨ j = w.heap.size + 1) _).set (.inl rfl) _).set (.inr rfl) _).set (.inr rfl) _).set (.inr rfl) _).set (.inr rfl) _).set (.inr rfl) _).set (.inr rfl) _).set (.inr rfl) _).set (.inr rfl) _).set (.inr rfl) _)⟩⟩
      · have d1 : decide ((k : Int) < (e.recs.length : Int)) = false := decide_eq_false (by omega)
        go_wp2_with fail
        exact bodyPost_ret (v := .agg #[.int .i64 e.kind, .string (bs (e.name.take 300)), .int .u16 e.t, .int .u16 e.c, .slice A1 rs.length cap1, .int .i64 e.til, .int .i64 e.rank, .int .i64 e.epoch, .int .i64 e.source]) (by simp [results, Try.results14, go_sem, z0, z1, z2, z3, z4, z5, z6, z7, z8]) rfl ⟨.slice A1 rs.length cap1, rfl, Fin.out _ ⟨by simp [World.setCell], (((((((((((ModS.refl (fun j => j = w.heap.size ∨ j = w.heap.size + 1) _).set (.inl rfl) _).set (.inr rfl) _).set (.inr rfl) _).set (.inr rfl) _).set (.inr rfl) _).set (.inr rfl) _).set (.inr rfl) _).set (.inr rfl) _).set (.inr rfl) _).set (.inr rfl) _)⟩⟩
end Go.Proofs.Ytihfapnipifiiaa
