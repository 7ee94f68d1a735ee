/- The walk of CacheNames. -/
import Derived.Test.YtihfapnipifiiaaAwake
import Derived.Test.YtihfapnipifiiaaBox
import Derived.Test.YtihfapnipifiiaaSmall16
import Derived.Test.YtihfapnipifiiaaSame16
import Derived.Handy
set_option linter.unusedVariables false
set_option linter.unusedSimpArgs false
namespace Go.Proofs.Ytihfapnipifiiaa
open Go Go.RowKit Go.Shelf

theorem lowB_low (c : UInt8) : lowB (lowB c) = lowB c := by
  unfold lowB
  by_cases h : 65 ≤ c ∧ c ≤ 90
  · rw [if_pos h, if_neg]
    rintro ⟨h1, h2⟩
    have a1 := UInt8.le_iff_toNat_le.1 h.1
    have a2 := UInt8.le_iff_toNat_le.1 h.2
    have b2 := UInt8.le_iff_toNat_le.1 h2
    have e65 : (65 : UInt8).toNat = 65 := rfl
    have e90 : (90 : UInt8).toNat = 90 := rfl
    have e32 : (32 : UInt8).toNat = 32 := rfl
    rw [UInt8.toNat_add] at b2
    omega
  · rw [if_neg h, if_neg h]
theorem low_low (l : List UInt8) : low (low l) = low l := by
  unfold low
  rw [List.map_map]
  exact List.map_congr_left (fun c _ => lowB_low c)
theorem keyL_low (p : UInt8) (n : List UInt8) (t c : Int) : keyL p (low n) t c = keyL p n t c := by
  unfold keyL; rw [low_low]
theorem byte_inj {a b : Nat} (ha : a < 256) (hb : b < 256) (h : UInt8.ofNat a = UInt8.ofNat b) : a = b := by
  have := congrArg UInt8.toNat h
  simp at this
  omega
theorem two8_inj {a b : Int} (a0 : 0 ≤ a) (a1 : a ≤ 65535) (b0 : 0 ≤ b) (b1 : b ≤ 65535) (h : two8 a = two8 b) : a = b := by
  unfold two8 at h
  injection h with h1 h2
  injection h2 with h2 _
  have e1 := byte_inj (by omega) (by omega) h1
  have e2 := byte_inj (by omega) (by omega) h2
  omega
theorem keyL_tc {p : UInt8} {n : List UInt8} {t c t' c' : Int} (t0 : 0 ≤ t) (t1 : t ≤ 65535) (c0 : 0 ≤ c) (c1 : c ≤ 65535) (t0' : 0 ≤ t') (t1' : t' ≤ 65535) (c0' : 0 ≤ c') (c1' : c' ≤ 65535) : keyL p n t c = keyL p n t' c' ↔ t = t' ∧ c = c' := by
  constructor
  · intro h
    unfold keyL at h
    have h1 := List.append_inj' h rfl
    have h2 := List.append_inj' h1.1 rfl
    exact ⟨two8_inj t0 t1 t0' t1' h2.2, two8_inj c0 c1 c0' c1' h1.2⟩
  · rintro ⟨rfl, rfl⟩; rfl
theorem keyL_part (n n' : List UInt8) (t c t' c' : Int) : keyL 0 n t c ≠ keyL 1 n' t' c' := by
  intro h
  unfold keyL at h
  simp at h

theorem getE_one (E : Ent) (k : List UInt8) (h : 0 ≤ E.til) : getE k 0 [E] = if E.key = k then some E else none := by
  unfold getE
  by_cases e : E.key = k
  · rw [if_pos e, List.find?_cons_of_pos (by simp [e, h])]
  · rw [if_neg e, List.find?_cons_of_neg (by simp [e])]; rfl
theorem getL_one (E : Ent) (k : List UInt8) (h : 0 ≤ E.til) : getL k 0 [E] = [E] := by
  unfold getL
  rw [getE_one E k h]
  by_cases e : E.key = k
  · rw [if_pos e]
    show [E].filter (fun y => y.key != k) ++ [E] = [E]
    rw [List.filter_cons_of_neg (by simp [e])]; rfl
  · rw [if_neg e]
/-- What a call tells of a cache with one entry. -/
noncomputable def oneX (E : Ent) (k : List UInt8) : Ent := @ite _ (E.key = k) (Classical.propDecidable _) E zeroE
theorem one_get {B b : Nat} {w0 w : World} {most : Int} {n : Nat} {E : Ent} {c : Ca} (h : Mine B w0 b most n [E] w c) (h0 : 0 ≤ E.til) (nm : ByteArray) (t q : Int) (w1 : World) {k : List UInt8} (hk : keyL 0 (lst nm) t q = k) {x : Bool} (hx : decide (E.key = k) = x) (hb : Below w.heap.size w w1) (hs : nm.size ≤ 1048576) (t0 : 0 ≤ t) (t1 : t ≤ 65535) (q0 : 0 ≤ q) (q1 : q ≤ 65535) (hn : n < 1000000) :
    Calls Try.prog 22 #[.pointer (some ⟨b, 0, none⟩), .string nm, .int .u16 t, .int .u16 q, .int .i64 0] w1 fun r w' => ∃ c' rv', Mine B w0 b most (n + 1) [E] w' c' ∧ (After w1 c w' c' ∧ ∀ k, c'.own k → c.own k) ∧
      r = .returned (.tuple #[(oneX E k).val rv', .bool x]) ∧ RecsOwn w' w1.heap.size rv' (oneX E k).recs := by
  subst hk
  refine (get_mine h nm t q 0 w1 hb hs t0 t1 q0 q1 hn).mono ?_
  rintro r w' ⟨c', rv', h1, h2, h3, h4⟩
  rw [getL_one E _ h0] at h1
  rw [getE_one E _ h0] at h3 h4
  refine ⟨c', rv', h1, h2, ?_, ?_⟩
  · rw [h3, ← hx]
    unfold oneX
    by_cases e : E.key = keyL 0 (lst nm) t q
    · rw [if_pos e, if_pos e, decide_eq_true e]; rfl
    · rw [if_neg e, if_neg e, decide_eq_false e]; rfl
  · unfold oneX
    by_cases e : E.key = keyL 0 (lst nm) t q
    · rw [if_pos e] at h4 ⊢; exact h4
    · rw [if_neg e] at h4 ⊢; exact h4
theorem one_name {B b : Nat} {w0 w : World} {most : Int} {n : Nat} {E : Ent} {c : Ca} (h : Mine B w0 b most n [E] w c) (h0 : 0 ≤ E.til) (nm : ByteArray) (q : Int) (w1 : World) {k : List UInt8} (hk : keyL 1 (lst nm) 0 q = k) {x : Bool} (hx : decide (E.key = k) = x) (hb : Below w.heap.size w w1) (hs : nm.size ≤ 1048576) (q0 : 0 ≤ q) (q1 : q ≤ 65535) (hn : n < 1000000) :
    Calls Try.prog 25 #[.pointer (some ⟨b, 0, none⟩), .string nm, .int .u16 q, .int .i64 0] w1 fun r w' => ∃ c' rv', Mine B w0 b most (n + 1) [E] w' c' ∧ (After w1 c w' c' ∧ ∀ k, c'.own k → c.own k) ∧
      r = .returned (.tuple #[(oneX E k).val rv', .bool x]) ∧ RecsOwn w' w1.heap.size rv' (oneX E k).recs := by
  subst hk
  refine (name_mine h nm q 0 w1 hb hs q0 q1 hn).mono ?_
  rintro r w' ⟨c', rv', h1, h2, h3, h4⟩
  rw [getL_one E _ h0] at h1
  rw [getE_one E _ h0] at h3 h4
  refine ⟨c', rv', h1, h2, ?_, ?_⟩
  · rw [h3, ← hx]
    unfold oneX
    by_cases e : E.key = keyL 1 (lst nm) 0 q
    · rw [if_pos e, if_pos e, decide_eq_true e]; rfl
    · rw [if_neg e, if_neg e, decide_eq_false e]; rfl
  · unfold oneX
    by_cases e : E.key = keyL 1 (lst nm) 0 q
    · rw [if_pos e] at h4 ⊢; exact h4
    · rw [if_neg e] at h4 ⊢; exact h4
theorem cchk_til {e : Ent} (h : cchk e = 0) : 0 ≤ e.til := by
  unfold cchk at h
  split at h
  · rename_i h1
    simp only [Bool.and_eq_true] at h1
    have h2 := h1.1.1
    unfold headOk within at h2
    simp only [Bool.and_eq_true, decide_eq_true_eq] at h2
    exact h2.1.1.2.1
  · cases h

set_option maxRecDepth 100000 in
set_option maxHeartbeats 4000000 in
theorem names_any (e : Ent) (rv : Value) (t q : Int) (w : World) (hrv : RecsAt w rv e.recs) (he : e.wf) (t0 : 0 ≤ t) (t1 : t ≤ 65535) (q0 : 0 ≤ q) (q1 : q ≤ 65535) :
    Calls Try.prog 6 #[e.val rv, .int .u16 t, .int .u16 q] w fun r w' => r = .returned (.bool true) ∧ Below w.heap.size w w' := by
  obtain ⟨E, hE⟩ : ∃ E, E = smallE 100 e := ⟨_, rfl⟩
  have hin : EntIn E := by rw [hE]; exact smallE_in he (by decide)
  have hsm := fun W (h : RecsAt W rv e.recs) => small16_any e rv W h he
  simp only [← hE] at hsm
  have Hin := Lib.hid hin
  have Hsm := Lib.hid hsm
  have Hrv := Lib.hid hrv
  have hb0 : Below w.heap.size w (w.alloc (.cells #[.int .i64 e.kind, .string (bs e.name), .int .u16 e.t, .int .u16 e.c, rv, .int .i64 e.til, .int .i64 e.rank, .int .i64 e.epoch, .int .i64 e.source] 25)) := (Below.refl _ w).alloc (Nat.le_refl _) _
  have Hb0 := Lib.hid hb0
  clear hE hin hsm hrv he hb0
  unfold Ent.val
  go_enter Try.func6, Try.ntmps6
  go_wp2_with fail
  refine (awake_any _).mono ?_
  rintro r w1 ⟨rfl, hb⟩
  have hbox : EntBox w1 w.heap.size e rv := (EntBox.new w e rv).below hb
  have hbw := bel_call Hb0.out hb
  have Hbw := Lib.hid hbw
  have Hbox := Lib.hid hbox
  clear hb hbw hbox Hb0
  go_upto_region 2 with fail
  go_cut [] (fun wx => ∃ rv', EntBox wx w.heap.size E rv' ∧ RecsOwn wx w1.heap.size rv' E.recs ∧ Below w.heap.size w wx ∧ w1.heap.size ≤ wx.heap.size)
  case first =>
    obtain ⟨x0, x1, x2, x3, x4, x5, x6, x7, x8⟩ := Hbox.out.cells
    go_wp2_with fail
    refine (Hsm.out w1 (Hrv.out.below Hbw.out)).mono ?_
    rintro r w2 ⟨rv', rfl, ho, hb⟩
    have hbox := Hbox.out.below hb
    obtain ⟨g0, g1, g2, g3, g4, g5, g6, g7, g8⟩ := hbox.free
    obtain ⟨x0, x1, x2, x3, x4, x5, x6, x7, x8⟩ := hbox.cells
    obtain ⟨A, cap, rfl⟩ := ho.shape
    have hset := hbox.set E (.slice A E.recs.length cap)
    have Hset := Lib.hid hset
    have Ho := Lib.hid ho
    have Hb2 := Lib.hid (bel_call Hbw.out hb)
    have hz := hb.size
    have hzw := Hbw.out.size
    have hlt := Hbox.out.lt
    clear hset ho hbox hb
    unfold Ent.val
    go_wp2_with fail
    go_meet
    refine ⟨_, Hset.out.1, Ho.out.same (fun k cur hk hc => Hset.out.2.block k (Array.getElem?_eq_some_iff.1 hc).1 ?_), ModS.below_of Hb2.out Hset.out.2 (by omega) (fun k hk => by omega), by have := Hset.out.2.size; omega⟩
    have := (own_cells Ho.out k hk).1
    omega
  case rest =>
    obtain ⟨rv', hbox, hown, hb, hz⟩ := hcut
    obtain ⟨A, cap, rfl⟩ := hown.shape
    have Hbox2 := Lib.hid hbox
    have Hown2 := Lib.hid hown
    have Hb2 := Lib.hid hb
    have hl2 := hbox.lt
    clear hbox hown hb Hbox Hbw Hsm Hrv
    generalize wc = w2 at *
    go_wp2_with fail
    refine (new_mine 9 _ Hb2.out).mono ?_
    rintro r w3 ⟨rfl, hb, hM⟩
    rw [show capOf 9 = 9 from by decide] at hM
    obtain ⟨c3, hc3⟩ : ∃ c, c = Ca.new w2.heap.size 9 := ⟨_, rfl⟩
    rw [← hc3] at hM
    have hn3 : ¬ c3.own w.heap.size := by
      rw [hc3]
      rintro (e | e | e | e | ⟨x, hx, _⟩)
      · have e' : w.heap.size = w2.heap.size := e
        omega
      · cases e
      · cases e
      · cases e
      · cases hx
    have hr3 : ∀ k, (Value.slice A E.recs.length cap).ownBlock = some k → ¬ c3.own k := by
      intro k hk
      obtain ⟨_, cur, hcur⟩ := own_cells Hown2.out k hk
      have := (Array.getElem?_eq_some_iff.1 hcur).1
      rw [hc3]
      rintro (e | e | e | e | ⟨x, hx, _⟩)
      · have e' : k = w2.heap.size := e
        omega
      · cases e
      · cases e
      · cases e
      · cases hx
    obtain ⟨cb, hcb⟩ : ∃ cb, cb = w2.heap.size := ⟨_, rfl⟩
    rw [← hcb] at hM ⊢
    have M3 := Lib.hid hM
    have hbox3 := Hbox2.out.below hb
    have Hbox3 := Lib.hid hbox3
    have Hown3 := Lib.hid (Hown2.out.below hb)
    obtain ⟨x0, x1, x2, x3, x4, x5, x6, x7, x8⟩ := hbox3.cells
    have Hr3 := Lib.hid hr3
    clear hM hb hc3 hcb hbox3 hr3 Hbox2 Hown2 Hb2 hl2
    go_wp2_with fail
    refine (ccheck_any E (.slice A E.recs.length cap) w3 Hin.out Hown3.out.at).mono ?_
    rintro r w4 ⟨rfl, hb⟩
    have M4 := Lib.hid (M3.out.step hb)
    have hbox4 := Hbox3.out.below hb
    have Hbox4 := Lib.hid hbox4
    have Hown4 := Lib.hid (Hown3.out.below hb)
    obtain ⟨x0, x1, x2, x3, x4, x5, x6, x7, x8⟩ := hbox4.cells
    clear hb hbox4 Hbox3 Hown3 M3
    by_cases hc : cchk E = 0
    case neg =>
      have hcb : (cchk E != 0) = true := bne_iff_ne.2 hc
      clear hc
      go_wp2_with fail
      go_ret
      exact ⟨rfl, M4.out.below⟩
    case pos =>
      have hcb : (cchk E != 0) = false := by rw [hc]; rfl
      have htil := cchk_til hc
      have hp : putB E 0 [] = true := putB_true hc htil (fun x hx => by cases hx)
      have hP : putR 9 0 E [] = [E] := putR_room hp (fun x hx => by cases hx) (by decide)
      have Hc := Lib.hid hc
      have Hp := Lib.hid hp
      have HP := Lib.hid hP
      clear hc hp hP
      go_wp2_with fail
      refine (put_mine' M4.out E (.slice A E.recs.length cap) 0 w4 _ rfl Hp.out (Below.refl _ _) Hin.out Hown4.out.at Hr3.out (by decide)).mono ?_
      rintro r w5 ⟨rfl, c5, hM, ha⟩
      rw [HP.out] at hM
      have M5 := Lib.hid hM
      have hE5 : Held w5 c5 w.heap.size E (.slice A E.recs.length cap) := Held.past ⟨Hbox4.out, hn3, ⟨_, Hown4.out⟩, Hr3.out⟩ ha
      obtain ⟨x0, x1, x2, x3, x4, x5, x6, x7, x8⟩ := hE5.box.cells
      have HE5 := Lib.hid hE5
      clear hM ha hE5 hn3 Hr3 Hbox4 Hown4 M4 hcb x0 x2 x3 x4 x5 x6 x7 x8
      have hsz : (bs (low E.name)).size ≤ 1048576 := by rw [bs_size, low_length]; exact Hin.out.name
      have hlst : lst (bs (low E.name)) = low E.name := lst_bs _
      have et0 := Hin.out.t0
      have et1 := Hin.out.t1
      have ec0 := Hin.out.c0
      have ec1 := Hin.out.c1
      have k1 : keyL 0 (lst (bs (low E.name))) E.t E.c = keyL 0 E.name E.t E.c := by rw [hlst, keyL_low]
      have k2 : keyL 1 (lst (bs (low E.name))) 0 E.c = keyL 1 E.name 0 E.c := by rw [hlst, keyL_low]
      have k3 : keyL 0 (lst (bs (low E.name))) t q = keyL 0 E.name t q := by rw [hlst, keyL_low]
      have k4 : keyL 1 (lst (bs (low E.name))) 0 q = keyL 1 E.name 0 q := by rw [hlst, keyL_low]
      obtain ⟨b1, hb1⟩ : ∃ b, decide (E.key = keyL 0 E.name E.t E.c) = b := ⟨_, rfl⟩
      obtain ⟨b2, hb2⟩ : ∃ b, decide (E.key = keyL 1 E.name 0 E.c) = b := ⟨_, rfl⟩
      obtain ⟨b3, hb3⟩ : ∃ b, decide (E.key = keyL 0 E.name t q) = b := ⟨_, rfl⟩
      obtain ⟨b4, hb4⟩ : ∃ b, decide (E.key = keyL 1 E.name 0 q) = b := ⟨_, rfl⟩
      obtain ⟨X1, hX1⟩ : ∃ X, X = oneX E (keyL 0 E.name E.t E.c) := ⟨_, rfl⟩
      obtain ⟨X2, hX2⟩ : ∃ X, X = oneX E (keyL 1 E.name 0 E.c) := ⟨_, rfl⟩
      obtain ⟨X3, hX3⟩ : ∃ X, X = oneX E (keyL 0 E.name t q) := ⟨_, rfl⟩
      obtain ⟨X4, hX4⟩ : ∃ X, X = oneX E (keyL 1 E.name 0 q) := ⟨_, rfl⟩
      have K1 := Lib.hid k1
      have K2 := Lib.hid k2
      have K3 := Lib.hid k3
      have K4 := Lib.hid k4
      have HB1 := Lib.hid hb1
      have HB2 := Lib.hid hb2
      have HB3 := Lib.hid hb3
      have HB4 := Lib.hid hb4
      have HX1 := Lib.hid hX1
      have HX2 := Lib.hid hX2
      have HX3 := Lib.hid hX3
      have HX4 := Lib.hid hX4
      have Htil := Lib.hid htil
      clear hlst k1 k2 k3 k4 hb1 hb2 hb3 hb4 hX1 hX2 hX3 hX4 htil
      go_wp2_with fail
      refine (rlower_any (bs E.name) _ (by rw [bs_size]; have := Hin.out.name; omega)).mono ?_
      rintro r w6 ⟨rfl, hb⟩
      rw [lst_bs]
      have hE6 := HE5.out.below hb
      have HE6 := Lib.hid hE6
      have Hb6 := Lib.hid hb
      have hl6 := hE6.lt
      obtain ⟨y0, y1, y2, y3, y4, y5, y6, y7, y8⟩ := hE6.box.cells
      clear hb hE6 HE5 x1 y0 y1 y4 y5 y6 y7 y8
      obtain ⟨N, hN⟩ : ∃ N, N = bs (low E.name) := ⟨_, rfl⟩
      rw [← hN] at hsz K1 K2 K3 K4 ⊢
      clear hN
      go_wp2_with fail
      refine (one_get M5.out Htil.out N E.t E.c _ K1.out HB1.out Hb6.out hsz et0 et1 ec0 ec1 (by decide)).mono ?_
      rintro r w7 ⟨c7, rv7, hM, ha, rfl, ho⟩
      rw [← HX1.out] at ho ⊢
      have hH1 := held_told M5.out Hb6.out hM ha ho
      have hE7 := HE6.out.past ha.1
      obtain ⟨A7, cap7, rfl⟩ := ho.shape
      have M7 := Lib.hid hM
      have HE7 := Lib.hid hE7
      have HH1 := Lib.hid hH1
      have hl7 := hE7.lt
      obtain ⟨y0, y1, y2, y3, y4, y5, y6, y7, y8⟩ := hE7.box.cells
      clear hM ha ho hH1 hE7 HE6 Hb6 M5 y0 y1 y2 y4 y5 y6 y7 y8
      dsimp only [Ent.val]
      go_wp2_with fail
      have HX1h := Lib.hid HH1.out
      have HEh := Lib.hid HE7.out
      clear HH1 HE7 y3 hl7
      have hbx : Below w7.heap.size w7 (w7.alloc (.cells #[.int .i64 X1.kind, .string (bs X1.name), .int .u16 X1.t, .int .u16 X1.c, .slice A7 X1.recs.length cap7, .int .i64 X1.til, .int .i64 X1.rank, .int .i64 X1.epoch, .int .i64 X1.source] 25)) := (Below.refl _ _).alloc (Nat.le_refl _) _
      generalize w7.alloc (.cells #[.int .i64 X1.kind, .string (bs X1.name), .int .u16 X1.t, .int .u16 X1.c, .slice A7 X1.recs.length cap7, .int .i64 X1.til, .int .i64 X1.rank, .int .i64 X1.epoch, .int .i64 X1.source] 25) = w8 at hbx HX1h ⊢
      have Hbx := Lib.hid hbx
      clear hbx
      refine (one_name M7.out Htil.out N E.c _ K2.out HB2.out Hbx.out hsz ec0 ec1 (by decide)).mono ?_
      rintro r w9 ⟨c9, rv9, hM, ha, rfl, ho⟩
      rw [← HX2.out] at ho ⊢
      have hH := held_told M7.out Hbx.out hM ha ho
      have HEh' := Lib.hid ((Held.below HEh.out Hbx.out).past ha.1)
      have HX1h' := Lib.hid (HX1h.out.past ha.1)
      obtain ⟨A9, cap9, rfl⟩ := ho.shape
      have M9 := Lib.hid hM
      have HX2h := Lib.hid hH
      clear hM ha ho hH Hbx M7 HEh HX1h
      have HEh := Lib.hid HEh'.out
      clear HEh'
      have HX1h := Lib.hid HX1h'.out
      clear HX1h'
      dsimp only [Ent.val]
      go_wp2_with fail
      have hbx : Below w9.heap.size w9 (w9.alloc (.cells #[.int .i64 X2.kind, .string (bs X2.name), .int .u16 X2.t, .int .u16 X2.c, .slice A9 X2.recs.length cap9, .int .i64 X2.til, .int .i64 X2.rank, .int .i64 X2.epoch, .int .i64 X2.source] 25)) := (Below.refl _ _).alloc (Nat.le_refl _) _
      generalize w9.alloc (.cells #[.int .i64 X2.kind, .string (bs X2.name), .int .u16 X2.t, .int .u16 X2.c, .slice A9 X2.recs.length cap9, .int .i64 X2.til, .int .i64 X2.rank, .int .i64 X2.epoch, .int .i64 X2.source] 25) = w10 at hbx HX2h ⊢
      have Hbx := Lib.hid hbx
      clear hbx
      refine (one_get M9.out Htil.out N t q _ K3.out HB3.out Hbx.out hsz t0 t1 q0 q1 (by decide)).mono ?_
      rintro r w11 ⟨c11, rv11, hM, ha, rfl, ho⟩
      rw [← HX3.out] at ho ⊢
      have hH := held_told M9.out Hbx.out hM ha ho
      have HEh' := Lib.hid ((Held.below HEh.out Hbx.out).past ha.1)
      have HX1h' := Lib.hid ((Held.below HX1h.out Hbx.out).past ha.1)
      have HX2h' := Lib.hid (HX2h.out.past ha.1)
      obtain ⟨A11, cap11, rfl⟩ := ho.shape
      have M11 := Lib.hid hM
      have HX3h := Lib.hid hH
      clear hM ha ho hH Hbx M9 HEh HX1h HX2h
      have HEh := Lib.hid HEh'.out
      clear HEh'
      have HX1h := Lib.hid HX1h'.out
      clear HX1h'
      have HX2h := Lib.hid HX2h'.out
      clear HX2h'
      clear HX3h
      dsimp only [Ent.val]
      go_wp2_with fail
      have hbx : Below w11.heap.size w11 (w11.alloc (.cells #[.int .i64 X3.kind, .string (bs X3.name), .int .u16 X3.t, .int .u16 X3.c, .slice A11 X3.recs.length cap11, .int .i64 X3.til, .int .i64 X3.rank, .int .i64 X3.epoch, .int .i64 X3.source] 25)) := (Below.refl _ _).alloc (Nat.le_refl _) _
      generalize w11.alloc (.cells #[.int .i64 X3.kind, .string (bs X3.name), .int .u16 X3.t, .int .u16 X3.c, .slice A11 X3.recs.length cap11, .int .i64 X3.til, .int .i64 X3.rank, .int .i64 X3.epoch, .int .i64 X3.source] 25) = w12 at hbx ⊢
      have Hbx := Lib.hid hbx
      clear hbx
      refine (one_name M11.out Htil.out N q _ K4.out HB4.out Hbx.out hsz q0 q1 (by decide)).mono ?_
      rintro r w13 ⟨c13, rv13, hM, ha, rfl, ho⟩
      rw [← HX4.out] at ho ⊢
      have hH := held_told M11.out Hbx.out hM ha ho
      have HEh' := Lib.hid ((Held.below HEh.out Hbx.out).past ha.1)
      have HX1h' := Lib.hid ((Held.below HX1h.out Hbx.out).past ha.1)
      have HX2h' := Lib.hid ((Held.below HX2h.out Hbx.out).past ha.1)
      obtain ⟨A13, cap13, rfl⟩ := ho.shape
      have M13 := Lib.hid hM
      have HX4h := Lib.hid hH
      clear hM ha ho hH Hbx M11 HEh HX1h HX2h
      have HEh := Lib.hid HEh'.out
      clear HEh'
      have HX1h := Lib.hid HX1h'.out
      clear HX1h'
      have HX2h := Lib.hid HX2h'.out
      clear HX2h'
      clear HX4h
      obtain ⟨y0, y1, y2, y3, y4, y5, y6, y7, y8⟩ := HEh.out.box.cells
      obtain ⟨p0, p1, p2, p3, p4, p5, p6, p7, p8⟩ := HX1h.out.box.cells
      have hle := HEh.out.lt
      have hlx := HX1h.out.lt
      obtain ⟨kb, hkb⟩ : ∃ b, (E.kind == 3) = b := ⟨_, rfl⟩
      dsimp only [Ent.val]
      have hX1n : X1.recs.length ≤ 1099511627776 := by
        rw [HX1.out]; unfold oneX
        split
        · have := recs_few Hc.out; omega
        · exact Nat.zero_le _
      have hX2n : X2.recs.length ≤ 1099511627776 := by
        rw [HX2.out]; unfold oneX
        split
        · have := recs_few Hc.out; omega
        · exact Nat.zero_le _
      have hEn : E.recs.length ≤ 1099511627776 := by have := recs_few Hc.out; omega
      have hsame1 := fun W (h : Below w13.heap.size w13 W) => rsame_any16 X1 E (.slice A7 X1.recs.length cap7) (.slice A E.recs.length cap) W (HX1h.out.at.below h) (HEh.out.at.below h) hX1n hEn
      have hsame2 := fun W (h : Below w13.heap.size w13 W) => rsame_any16 X2 E (.slice A9 X2.recs.length cap9) (.slice A E.recs.length cap) W (HX2h.out.at.below h) (HEh.out.at.below h) hX2n hEn
      obtain ⟨s1, hs1⟩ : ∃ s, s = sameE X1 E := ⟨_, rfl⟩
      obtain ⟨s2, hs2⟩ : ∃ s, s = sameE X2 E := ⟨_, rfl⟩
      simp only [← hs1] at hsame1
      simp only [← hs2] at hsame2
      unfold Ent.val at hsame1 hsame2
      have Hsame1 := Lib.hid hsame1
      have Hsame2 := Lib.hid hsame2
      have Hs1 := Lib.hid hs1
      have Hs2 := Lib.hid hs2
      clear hsame1 hsame2 hs1 hs2 hX1n hX2n hEn
      go_wp2_with fail
      refine (Hsame1.out _ (by go_grown)).mono ?_
      rintro r w14 ⟨rfl, hb⟩
      have hb14 : Below w13.heap.size w13 w14 := bel_call (by go_grown) hb
      have hE14 := HEh.out.below hb14
      have hX14 := HX2h.out.below hb14
      obtain ⟨y0, y1, y2, y3, y4, y5, y6, y7, y8⟩ := hE14.box.cells
      obtain ⟨p0, p1, p2, p3, p4, p5, p6, p7, p8⟩ := hX14.box.cells
      have HE14 := Lib.hid hE14
      have Hb14 := Lib.hid hb14
      clear hb hb14 hE14 hX14 HX1h hlx hle
      go_wp2_with fail
      refine (Hsame2.out _ Hb14.out).mono ?_
      rintro r w15 ⟨rfl, hb⟩
      have hE15 := HE14.out.below hb
      obtain ⟨y0, y1, y2, y3, y4, y5, y6, y7, y8⟩ := hE15.box.cells
      have Hb15 := Lib.hid (bel_call Hb14.out hb)
      clear hb hE15 HE14 HX2h HEh Hsame1 Hsame2 p0 p1 p2 p3 p4 p5 p6 p7 p8 y0 y1 y4 y5 y6 y7 y8
      have fin : Below w.heap.size w w15 := (M13.out.step Hb15.out).below
      have Fin := Lib.hid fin
      clear fin
      have hkeyn : kb = false → E.key = keyL 0 E.name E.t E.c := by
        intro h; rw [h] at hkb
        unfold Ent.key
        rw [if_neg (fun q => by rw [q] at hkb; cases hkb)]
      have hkeyy : kb = true → E.key = keyL 1 E.name 0 E.c := by
        intro h; rw [h] at hkb
        unfold Ent.key
        rw [if_pos (beq_iff_eq.1 hkb)]
      cases kb with
      | false =>
        have hk := hkeyn rfl
        obtain rfl : b1 = true := by rw [← HB1.out]; exact decide_eq_true hk
        obtain rfl : b2 = false := by rw [← HB2.out]; exact decide_eq_false (fun e => keyL_part _ _ _ _ _ _ (hk.symm.trans e))
        obtain rfl : b4 = false := by rw [← HB4.out]; exact decide_eq_false (fun e => keyL_part _ _ _ _ _ _ (hk.symm.trans e))
        obtain rfl : s1 = true := by
          rw [Hs1.out, HX1.out]; unfold oneX; rw [if_pos hk]; exact sameE_refl E
        have hb3 : b3 = (t == E.t && q == E.c) := by
          rw [← HB3.out, Bool.eq_iff_iff, decide_eq_true_iff, hk, keyL_tc et0 et1 ec0 ec1 t0 t1 q0 q1]
          simp only [Bool.and_eq_true, beq_iff_eq]
          constructor
          · rintro ⟨h1, h2⟩; exact ⟨h1.symm, h2.symm⟩
          · rintro ⟨h1, h2⟩; exact ⟨h1.symm, h2.symm⟩
        clear hk hkeyn hkeyy HB1 HB2 HB3 HB4 HX1 HX2 HX3 HX4 Hs1 Hs2 K1 K2 K3 K4 hkb
        cases ht : (t == E.t) <;> cases hq : (q == E.c) <;> rw [ht, hq] at hb3 <;> simp only [Bool.and_self, Bool.and_false, Bool.false_and, Bool.and_true] at hb3 <;> subst hb3
        all_goals (go_wp2_with fail; go_ret; exact ⟨rfl, Fin.out⟩)
      | true =>
        have hk := hkeyy rfl
        obtain rfl : b1 = false := by rw [← HB1.out]; exact decide_eq_false (fun e => keyL_part _ _ _ _ _ _ (e.symm.trans hk))
        obtain rfl : b2 = true := by rw [← HB2.out]; exact decide_eq_true hk
        obtain rfl : b3 = false := by rw [← HB3.out]; exact decide_eq_false (fun e => keyL_part _ _ _ _ _ _ (e.symm.trans hk))
        obtain rfl : s2 = true := by
          rw [Hs2.out, HX2.out]; unfold oneX; rw [if_pos hk]; exact sameE_refl E
        have hb4 : b4 = (q == E.c) := by
          rw [← HB4.out, Bool.eq_iff_iff, decide_eq_true_iff, hk, keyL_tc (by omega) (by omega) ec0 ec1 (by omega) (by omega) q0 q1, beq_iff_eq]
          constructor
          · rintro ⟨_, h2⟩; exact h2.symm
          · intro h2; exact ⟨rfl, h2.symm⟩
        clear hk hkeyn hkeyy HB1 HB2 HB3 HB4 HX1 HX2 HX3 HX4 Hs1 Hs2 K1 K2 K3 K4 hkb
        cases hq : (q == E.c) <;> rw [hq] at hb4 <;> subst hb4
        all_goals (go_wp2_with fail; go_ret; exact ⟨rfl, Fin.out⟩)
end Go.Proofs.Ytihfapnipifiiaa
