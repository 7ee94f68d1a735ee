/- The walks of package record: cut. -/
import Derived.Test.YtihfapnipifiiaaRec1
namespace Go.Proofs.Ytihfapnipifiiaa
open Go Go.RowKit Go.Shelf

theorem beq_cast (a b : Nat) : ((a : Int) == (b : Int)) = decide (a = b) := by
  rw [Bool.eq_iff_iff]; simp; omega
def CutPost (h : Nat × Nat × Nat) (d : List UInt8) (w : World) (e : Ending) (w' : World) : Prop :=
  ∃ (a b : ByteArray) (v : Value) (ns : List (List UInt8)), e = .returned (.tuple #[.agg #[.string a, .string b, v], .bool (cutOk h d)]) ∧ Below w.heap.size w w' ∧ Strs w' w.heap.size v ns ∧
    (∀ ns' r, cutL h d = some (ns', r) → ns = ns' ∧ a = bs (d.take h.1) ∧ b = bs r)

/-- The cells of cut's own variables. -/
structure CutCells (z : Nat) (h : Nat × Nat × Nat) (ah rest : ByteArray) (v : Value) (W : World) : Prop where
  s0 : W.cell? ⟨z, 0, none⟩ = some (.int .i64 h.1)
  s1 : W.cell? ⟨z, 1, none⟩ = some (.int .i64 h.2.1)
  s2 : W.cell? ⟨z, 2, none⟩ = some (.int .i64 h.2.2)
  r0 : W.cell? ⟨z + 1, 0, none⟩ = some (.string ⟨#[]⟩)
  r1 : W.cell? ⟨z + 1, 1, none⟩ = some (.string ⟨#[]⟩)
  r2 : W.cell? ⟨z + 1, 2, none⟩ = some (.slice none 0 0)
  x0 : W.cell? ⟨z + 1 + 1, 0, none⟩ = some (.string ah)
  x1 : W.cell? ⟨z + 1 + 1, 1, none⟩ = some (.string ⟨#[]⟩)
  x2 : W.cell? ⟨z + 1 + 1, 2, none⟩ = some v
  q : W.cell? ⟨z + 1 + 1 + 1, 0, none⟩ = some (.string rest)
  fr : ∀ b o, z ≤ b → b < z + 4 → W.frozen? ⟨b, o, none⟩ = false
theorem CutCells.step {z : Nat} {h : Nat × Nat × Nat} {ah rest rest' : ByteArray} {v v' : Value} {W W' : World} (c : CutCells z h ah rest v W)
    (hq : W'.cell? ⟨z + 1 + 1 + 1, 0, none⟩ = some (.string rest')) (hx : W'.cell? ⟨z + 1 + 1, 2, none⟩ = some v')
    (hk : ∀ a u, W.cell? a = some u → a.block < z + 4 → a ≠ ⟨z + 1 + 1 + 1, 0, none⟩ → a ≠ ⟨z + 1 + 1, 2, none⟩ → W'.cell? a = some u)
    (hf : ∀ a : Addr, a.block < z + 4 → a.block < W.heap.size → W'.frozen? a = W.frozen? a) : CutCells z h ah rest' v' W' := by
  have hlt := blk_of_cell c.q
  dsimp only at hlt
  refine ⟨hk _ _ c.s0 ?_ ?_ ?_, hk _ _ c.s1 ?_ ?_ ?_, hk _ _ c.s2 ?_ ?_ ?_, hk _ _ c.r0 ?_ ?_ ?_, hk _ _ c.r1 ?_ ?_ ?_, hk _ _ c.r2 ?_ ?_ ?_, hk _ _ c.x0 ?_ ?_ ?_, hk _ _ c.x1 ?_ ?_ ?_, hx, hq, fun b o h1 h2 => (hf _ h2 (by dsimp only; omega)).trans (c.fr b o h1 h2)⟩ <;>
    first | (dsimp only; omega) | (intro e; have e1 := congrArg Addr.block e; have e2 := congrArg Addr.off e; dsimp only at e1 e2; omega)
theorem CutCells.below {z : Nat} {h : Nat × Nat × Nat} {ah rest : ByteArray} {v : Value} {W W' : World} (c : CutCells z h ah rest v W) (hb : Below W.heap.size W W') : CutCells z h ah rest v W' := by
  have hlt := blk_of_cell c.q
  dsimp only at hlt
  have k := fun (a : Addr) (u : Value) (ha : W.cell? a = some u) => (hb.cell (blk_of_cell ha)).trans ha
  exact ⟨k _ _ c.s0, k _ _ c.s1, k _ _ c.s2, k _ _ c.r0, k _ _ c.r1, k _ _ c.r2, k _ _ c.x0, k _ _ c.x1, k _ _ c.x2, k _ _ c.q, fun b o h1 h2 => (hb.frozen (by dsimp only; omega)).trans (c.fr b o h1 h2)⟩

theorem takeN_len : ∀ (n : Nat) (l : List UInt8) (ns : List (List UInt8)) (r : List UInt8), takeN n l = some (ns, r) → ns.length = n ∧ r.length ≤ l.length := by
  intro n
  induction n with
  | zero => intro l ns r h; cases h; simp
  | succ n ih =>
    intro l ns r h
    unfold takeN at h
    cases h1 : takeN n l with
    | none => rw [h1] at h; cases h
    | some p =>
      obtain ⟨ms, q⟩ := p
      rw [h1] at h
      dsimp only at h
      obtain ⟨i1, i2⟩ := ih l ms q h1
      cases h2 : firstN q with
      | none => rw [h2] at h; cases h
      | some p2 =>
        obtain ⟨x, q2⟩ := p2
        rw [h2] at h; cases h
        refine ⟨by simp [i1], ?_⟩
        unfold firstN at h2
        split at h2
        · cases h2; simp; omega
        · cases h2

theorem takeN_none {k : Nat} {l : List UInt8} {ns : List (List UInt8)} {r : List UInt8} (h : takeN k l = some (ns, r)) (hf : firstN r = none) : ∀ n, k < n → takeN n l = none := by
  intro n
  induction n with
  | zero => intro h; omega
  | succ n ih =>
    intro hk
    unfold takeN
    by_cases e : k = n
    · subst e; rw [h]; dsimp only; rw [hf]
    · rw [ih (by omega)]

set_option maxRecDepth 100000 in
set_option maxHeartbeats 2000000 in
theorem cut_any (h : Nat × Nat × Nat) (d : ByteArray) (w : World) (hs : d.size ≤ 1048576) (hh : h.1 ≤ 2 ∧ h.2.1 ≤ 2 ∧ h.2.2 ≤ 20) :
    Calls Try.prog 105 #[shapeV h, .string d] w (CutPost h (lst d) w) := by
  obtain ⟨ah, nn, bh⟩ := h
  obtain ⟨g1, g2, g3⟩ := hh
  dsimp only at g1 g2 g3
  have Hlen := Lib.hid (lst_length d)
  unfold shapeV
  dsimp only
  by_cases hlt : d.size < ah
  · go_enter Try.func105, Try.ntmps105
    go_wp2
    refine bodyPost_ret (v := .tuple #[.agg #[.string ⟨#[]⟩, .string ⟨#[]⟩, .slice none 0 0], .bool false]) (by simp [results, Try.results105, go_sem]) rfl ?_
    have e : cutL (ah, nn, bh) (lst d) = none := by unfold cutL; rw [if_pos (by rw [Hlen.out]; exact hlt)]
    refine ⟨_, _, _, [], by unfold cutOk; rw [e], ((Below.refl _ w).alloc (Nat.le_refl _) _).alloc (by simp) _, Strs.nil _ _, fun ns' r hc => ?_⟩
    rw [e] at hc; cases hc
  · have hge : ah ≤ d.size := by omega
    go_enter Try.func105, Try.ntmps105
    go_wp2
    generalize hW : (((w.alloc (.cells #[.int .i64 ah, .int .i64 nn, .int .i64 bh] 158)).alloc (.cells #[.string ⟨#[]⟩, .string ⟨#[]⟩, .slice none 0 0] 161)).alloc (.cells #[.string (d.extract 0 ah), .string ⟨#[]⟩, .slice none 0 0] 161)).alloc (.cells #[.string (d.extract ah d.size)] 9) = W0
    have hext : d.extract ah d.size = bs ((lst d).drop ah) := by
      rw [extract_bs, List.take_of_length_le]; rw [List.length_drop, lst_length]; exact Nat.le_refl _
    have C0 : CutCells w.heap.size (ah, nn, bh) (d.extract 0 ah) (bs ((lst d).drop ah)) (.slice none 0 0) W0 := by
      rw [← hext]; subst hW
      refine ⟨by go_simp, by go_simp, by go_simp, by go_simp, by go_simp, by go_simp, by go_simp, by go_simp, by go_simp, by go_simp, ?_⟩
      intro b o h1 h2
      rcases (show b = w.heap.size ∨ b = w.heap.size + 1 ∨ b = w.heap.size + 1 + 1 ∨ b = w.heap.size + 1 + 1 + 1 by omega) with rfl | rfl | rfl | rfl <;> go_simp
    have B0 : Below w.heap.size w W0 := by subst hW; exact ((((Below.refl _ w).alloc (Nat.le_refl _) _).alloc (by simp) _).alloc (by simp; omega) _).alloc (by simp; omega) _
    have Z0 : w.heap.size + 4 ≤ W0.heap.size := by subst hW; simp
    have Hext := Lib.hid hext
    clear hW hext
    go_loopw [27] (fun k_ wr => ∃ (k : Nat) (ns : List (List UInt8)) (rest : List UInt8) (v : Value), k_ = .int .i64 k ∧ k ≤ nn ∧ takeN k ((lst d).drop ah) = some (ns, rest) ∧
        CutCells w.heap.size (ah, nn, bh) (d.extract 0 ah) (bs rest) v wr ∧ Strs wr (w.heap.size + 4) v ns ∧ Below w.heap.size w wr ∧ w.heap.size + 4 ≤ wr.heap.size) (fun k_ _ => nn - (intOf k_).toNat)
    case atStart => exact ⟨0, [], _, _, rfl, Nat.zero_le _, rfl, C0, Strs.nil _ _, B0, Z0⟩
    case round =>
      obtain ⟨k, ns, rest, v, rfl, hk, ht, hC, hst, hB, hZ⟩ := hrel
      have Ht := Lib.hid ht
      have tl := takeN_len _ _ _ _ ht
      have hns : ns.length ≤ 4 := by omega
      have hrl : rest.length ≤ 1048576 := by have h2 := tl.2; rw [List.length_drop, lst_length] at h2; omega
      clear ht C0 tl
      have HC := Lib.hid hC
      have Hst := Lib.hid hst
      clear hC hst
      by_cases hkn : k < nn
      · have hd : decide ((k : Int) < nn) = true := by simp; omega
        cases hf : firstN rest with
        | none =>
          have Hf := Lib.hid hf
          clear hf
          go_wp2_with fail
          refine (cutc_any rest ns v (w.heap.size + 1 + 1 + 1) (w.heap.size + 1 + 1) (w.heap.size + 4) _ hrl hns HC.out.q (HC.out.fr _ _ (by omega) (by omega)) HC.out.x2 (HC.out.fr _ _ (by omega) (by omega)) Hst.out (by omega) (by omega) (by omega) hZ).mono ?_
          unfold CutC; rw [Hf.out]
          rintro e w1 ⟨rfl, h1⟩
          have HC1 := HC.out.below h1
          have c0 := HC1.r0
          have c1 := HC1.r1
          have c2 := HC1.r2
          have f0 := HC1.fr (w.heap.size + 1) 0 (by omega) (by omega)
          have f1 := HC1.fr (w.heap.size + 1) 1 (by omega) (by omega)
          have f2 := HC1.fr (w.heap.size + 1) 2 (by omega) (by omega)
          clear HC1
          have e1 : cutL (ah, nn, bh) (lst d) = none := by
            unfold cutL; rw [if_neg (by rw [Hlen.out]; omega)]
            exact takeN_none Ht.out Hf.out _ hkn
          have E1 := Lib.hid e1
          clear e1
          have hz1 := h1.size
          go_wp2
          refine bodyPost_ret (v := .tuple #[.agg #[.string ⟨#[]⟩, .string ⟨#[]⟩, .slice none 0 0], .bool false]) (by simp [results, Try.results105, go_sem, c0, c1, c2]) rfl ?_
          have hb3 : Below w.heap.size w w1 := hB.trans (h1.mono (by omega))
          refine ⟨_, _, _, [], by unfold cutOk; rw [E1.out], ((hb3.setCell (by simp) _).setCell (by simp) _).setCell (by simp) _, Strs.nil _ _, fun ns' r hc => ?_⟩
          rw [E1.out] at hc; cases hc
        | some p =>
          obtain ⟨x, rest'⟩ := p
          have Hf := Lib.hid hf
          clear hf
          go_wp2_with fail
          refine (cutc_any rest ns v (w.heap.size + 1 + 1 + 1) (w.heap.size + 1 + 1) (w.heap.size + 4) _ hrl hns HC.out.q (HC.out.fr _ _ (by omega) (by omega)) HC.out.x2 (HC.out.fr _ _ (by omega) (by omega)) Hst.out (by omega) (by omega) (by omega) hZ).mono ?_
          unfold CutC; rw [Hf.out]
          rintro e w1 ⟨rfl, hq, ⟨v', hx, hst'⟩, hkeep, hfz, hbel⟩
          have HC1 := HC.out.step hq hx hkeep hfz
          have HB1 := hB.trans (hbel w.heap.size (by omega) (by omega) (by omega))
          have hz1 := (hbel 0 (by omega) (by omega) (by omega)).size
          have HC1' := Lib.hid HC1
          clear HC1 hq hx hkeep hfz hbel
          go_wp2
          go_roundw
          case rel => exact ⟨k + 1, ns ++ [x], rest', v', by go_num, by omega, by unfold takeN; rw [Ht.out]; dsimp only; rw [Hf.out], HC1'.out, hst', HB1, by omega⟩
          case measure => simp [intOf]; omega
      · have hkn' : k = nn := by omega
        have e1 : cutL (ah, nn, bh) (lst d) = some (ns, rest) := by
          unfold cutL; rw [if_neg (by rw [Hlen.out]; omega), ← hkn']; exact Ht.out
        have E1 := Lib.hid e1
        clear e1 hkn'
        have E2 : Hid (cutOk (ah, nn, bh) (lst d) = ((rest.length : Int) == (bh : Int))) := by
          show cutOk (ah, nn, bh) (lst d) = _
          unfold cutOk; rw [E1.out]; exact (beq_cast _ _).symm
        have c0 := HC.out.r0
        have c1 := HC.out.r1
        have c2 := HC.out.r2
        have d0 := HC.out.x0
        have d1 := HC.out.x1
        have d2 := HC.out.x2
        have q0 := HC.out.q
        have q2 := HC.out.s2
        dsimp only at q2
        have f0 := HC.out.fr (w.heap.size + 1) 0 (by omega) (by omega)
        have f1 := HC.out.fr (w.heap.size + 1) 1 (by omega) (by omega)
        have f2 := HC.out.fr (w.heap.size + 1) 2 (by omega) (by omega)
        have f3 := HC.out.fr (w.heap.size + 1 + 1) 1 (by omega) (by omega)
        have hsz : (bs rest).size = rest.length := bs_size rest
        obtain ⟨A, cap, rfl⟩ := Hst.out.shape
        go_wp2
        go_region
        all_goals go_wp2
        all_goals (refine bodyPost_ret (v := .tuple #[.agg #[.string (d.extract 0 ah), .string (bs rest), .slice A ns.length cap], .bool ((rest.length : Int) == (bh : Int))]) (by simp [results, Try.results105, go_sem, c0, c1, c2]) rfl ?_)
        all_goals (refine ⟨d.extract 0 ah, bs rest, .slice A ns.length cap, ns, ?_, ((((hB.setCell ?_ _).setCell ?_ _).setCell ?_ _).setCell ?_ _).drew, ?_, ?_⟩)
        all_goals first
          | (simp; done)
          | (rw [E2.out])
          | (dsimp only; omega)
          | (intro ns' r hc; rw [E1.out] at hc; cases hc; exact ⟨rfl, by rw [extract_bs]; simp, rfl⟩)
          | (exact (((((Hst.out.set (by simp) _).set (by simp) _).set (by simp) _).set (by simp) _).mono (by omega)))
          | skip
end Go.Proofs.Ytihfapnipifiiaa
