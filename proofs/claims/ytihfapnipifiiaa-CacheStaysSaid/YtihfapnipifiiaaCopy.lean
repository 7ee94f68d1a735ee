/- The walks of slices.Clone of records and of cache.copied. -/
import Derived.Test.YtihfapnipifiiaaCheck2
import Derived.Maps.AppendAt
import Derived.Lib.LazyBuf
namespace Go.Proofs.Ytihfapnipifiiaa
open Go Go.RowKit Go.Shelf

/-- The cells of records. -/
def rowL (rs : List RRec) : List Value := rs.flatMap RRec.cells
theorem rowL_length (rs : List RRec) : (rowL rs).length = rs.length * 5 := by
  induction rs with
  | nil => rfl
  | cons r rs ih =>
    show (r.cells ++ rowL rs).length = _
    rw [List.length_append, ih, List.length_cons]
    show 5 + rs.length * 5 = _
    omega
theorem rowL_get (rs : List RRec) : ∀ (k : Nat) (u : Value), (rowL rs)[k]? = some u → ∃ r, rs[k / 5]? = some r ∧ r.cells[k % 5]? = some u := by
  induction rs with
  | nil => intro k u h; simp [rowL] at h
  | cons r rs ih =>
    intro k u h
    change (r.cells ++ rowL rs)[k]? = some u at h
    have hl : r.cells.length = 5 := rfl
    by_cases hk : k < 5
    · rw [List.getElem?_append_left (by omega)] at h
      exact ⟨r, by rw [Nat.div_eq_of_lt hk]; rfl, by rw [Nat.mod_eq_of_lt hk]; exact h⟩
    · rw [List.getElem?_append_right (by omega), hl] at h
      obtain ⟨r', h1, h2⟩ := ih _ _ h
      have e1 : k / 5 = (k - 5) / 5 + 1 := by omega
      have e2 : k % 5 = (k - 5) % 5 := by omega
      exact ⟨r', by rw [e1, List.getElem?_cons_succ]; exact h1, by rw [e2]; exact h2⟩
theorem rowL_at (rs : List RRec) : ∀ (i j : Nat) (r : RRec) (u : Value), rs[i]? = some r → r.cells[j]? = some u → (rowL rs)[i * 5 + j]? = some u := by
  induction rs with
  | nil => intro i j r u h; simp at h
  | cons r rs ih =>
    intro i j r' u h hu
    show (r.cells ++ rowL rs)[_]? = some u
    have hl : r.cells.length = 5 := rfl
    have hj : j < 5 := (List.getElem?_eq_some_iff.1 hu).1
    cases i with
    | zero =>
      cases h
      rw [List.getElem?_append_left (by omega)]
      simpa using hu
    | succ i =>
      rw [List.getElem?_append_right (by omega), hl]
      have e1 : (i + 1) * 5 + j - 5 = i * 5 + j := by omega
      rw [e1]
      exact ih i j r' u h hu
theorem rowL_one (rs : List RRec) : ∀ u ∈ rowL rs, u.oneCell' = true := by
  intro u hu
  obtain ⟨r, _, h⟩ := List.mem_flatMap.1 hu
  simp only [RRec.cells, List.mem_cons, List.not_mem_nil, or_false] at h
  rcases h with rfl | rfl | rfl | rfl | rfl <;> rfl

/-- Records in a row of their own. -/
def RecsOwn (W : World) (base : Nat) (v : Value) (rs : List RRec) : Prop := W.ownsRow base 56 5 v rs.length (rowL rs)
theorem RecsOwn.at {W : World} {base : Nat} {v : Value} {rs : List RRec} (h : RecsOwn W base v rs) : RecsAt W v rs := by
  obtain ⟨_, h | ⟨g, cap, cur, hv, hg, hb, hc, hm, hz, ht⟩⟩ := h
  · obtain ⟨rfl, h0⟩ := h
    have : rs = [] := List.eq_nil_of_length_eq_zero h0
    subst this
    exact ⟨none, 0, rfl, Nat.le_refl _, .inl rfl⟩
  · refine ⟨some ⟨g, 0, none⟩, cap, hv, hc, .inr ⟨g, 0, rfl, fun i r hi j u hj => ?_⟩⟩
    have h1 := rowL_at rs i j r u hi hj
    rw [← ht, List.getElem?_take] at h1
    split at h1
    · have h2 : cur[i * 5 + j]? = some u := by simpa using h1
      simp [World.cell?, hb, h2]
    · cases h1
theorem RecsOwn.mono {W : World} {b b' : Nat} {v : Value} {rs : List RRec} (h : RecsOwn W b v rs) (hb : b' ≤ b) : RecsOwn W b' v rs := by
  obtain ⟨h0, h | ⟨g, cap, cur, hv, hg, h⟩⟩ := h
  · exact ⟨h0, .inl h⟩
  · exact ⟨h0, .inr ⟨g, cap, cur, hv, Nat.le_trans hb hg, h⟩⟩
theorem RecsOwn.same {W W' : World} {b : Nat} {v : Value} {rs : List RRec} (h : RecsOwn W b v rs) (e : ∀ k cur, v.ownBlock = some k → W.heap[k]? = some (.cells cur 56 (0, 0)) → W'.heap[k]? = W.heap[k]?) : RecsOwn W' b v rs := by
  obtain ⟨h0, h | ⟨g, cap, cur, rfl, hg, hb, h⟩⟩ := h
  · exact ⟨h0, .inl h⟩
  · exact ⟨h0, .inr ⟨g, cap, cur, rfl, hg, (e g cur rfl hb).trans hb, h⟩⟩

theorem RecsOwn.shape {W : World} {b : Nat} {v : Value} {rs : List RRec} (h : RecsOwn W b v rs) : ∃ A cap, v = .slice A rs.length cap := by
  obtain ⟨h0, ⟨rfl, h⟩ | ⟨g, cap, cur, rfl, h⟩⟩ := h
  · exact ⟨none, 0, by rw [h]⟩
  · exact ⟨_, _, rfl⟩
theorem RecsAt.shape {W : World} {v : Value} {rs : List RRec} (h : RecsAt W v rs) : ∃ A cap, v = .slice A rs.length cap := by
  obtain ⟨A, cap, e, _⟩ := h
  exact ⟨A, cap, e⟩

theorem info_rr : (Try.prog.info? 56).map (fun i => (i.zero, i.size, i.bytes)) = some (some (.agg #[.string ⟨#[]⟩, .int .u16 0, .int .u16 0, .int .u32 0, .string ⟨#[]⟩]), 5, 40) := by kernel_rfl

set_option maxRecDepth 100000 in
theorem clone_any (v : Value) (rs : List RRec) (w : World) (h : RecsAt w v rs) (hl : rs.length ≤ 1048576) :
    Calls Try.prog 94 #[v] w fun e w' => ∃ v', e = .returned v' ∧ RecsOwn w' w.heap.size v' rs ∧ Below w.heap.size w w' := by
  obtain ⟨i0, hi, hz0, hz1, hz2⟩ := info_parts info_rr
  obtain ⟨A, cap, rfl, hcap, hc⟩ := h
  cases A with
  | none =>
    have h0 : rs = [] := by
      rcases hc with h | ⟨b, off, h, _⟩
      · exact h
      · cases h
    subst h0
    have e1 := Lib.run_eql_slice_nil (P := Try.prog) w 23 56 none 0 cap (h := Try.underlying23)
    dsimp only [List.length_nil]
    dsimp only [Option.isNone] at e1
    go_enter Try.func94, Try.ntmps94
    go_wp2
    go_ret
    exact ⟨_, rfl, ⟨rfl, .inl ⟨rfl, rfl⟩⟩, Below.refl _ _⟩
  | some a =>
    have hnews : ∀ j u, (rowL rs)[j]? = some u → w.cell? (a.add j) = some u := by
      intro j u hj
      obtain ⟨r, h1, h2⟩ := rowL_get rs j u hj
      rcases hc with h | ⟨b, off, ha, h⟩
      · rw [h] at h1; simp at h1
      · cases ha
        have := h _ _ h1 _ _ h2
        have e : off + j / 5 * 5 + j % 5 = off + j := by omega
        rw [e] at this
        have ea : (⟨b, off, none⟩ : Addr).add j = ⟨b, off + j, none⟩ := by
          unfold Addr.add
          split
          · next h => subst h; rfl
          · rfl
        rw [ea]
        exact this
    have e1 := Lib.run_eql_slice_nil (P := Try.prog) w 23 56 (some a) rs.length cap (h := Try.underlying23)
    dsimp only [Option.isNone] at e1
    have own0 : (w.alloc (.cells #[] 56)).ownsRow w.heap.size 56 5 (.slice (some ⟨w.heap.size, 0, none⟩) 0 0) 0 [] := ⟨rfl, .inr ⟨w.heap.size, 0, #[], rfl, Nat.le_refl _, heap_alloc_new _ _, Nat.le_refl _, Nat.zero_le _, rfl, rfl⟩⟩
    have b1 : 0 + rs.length ≤ maxLen := by unfold maxLen; omega
    have b2 : (0 + rs.length) * 40 ≤ 140737488355328 := by omega
    have Hnews := Lib.hid hnews
    clear hnews hc
    go_enter Try.func94, Try.ntmps94
    go_wp2_with (at_builtin; refine wpList_append_own_at (P := Try.prog) (w := w.alloc (.cells #[] 56)) rfl _ _ 23 rfl w.heap.size 56 i0 (.agg #[.string ⟨#[]⟩, .int .u16 0, .int .u16 0, .int .u32 0, .string ⟨#[]⟩]) 5 40 Try.underlying23 hi hz0 hz1 hz2 rfl (by decide) _ 0 [] rfl own0 a rs.length cap (rowL rs) rfl (rowL_length rs) ?c1 (rowL_one rs) b1 b2 (by simp) ?_)
    case c1 => intro j u hj; exact (World.cell?_alloc_some _ _ _ (by rw [Hnews.out j u hj]; rfl)).trans (Hnews.out j u hj)
    intro v' w' hown hgrow hnil hlies
    have Hown := Lib.hid hown
    have Hgrow := Lib.hid hgrow
    clear hown hgrow hnil hlies
    go_wp2
    go_ret
    refine ⟨_, rfl, Hown.out, ?_⟩
    have hg := Hgrow.out
    have hs := hg.size
    rw [World.size_alloc] at hs
    exact ⟨hg.os, hg.tape, hg.output, by omega, fun k hk => (hg.block k (by rw [World.size_alloc]; omega) (by simp [Value.ownBlock]; omega)).trans (Below.heap_alloc _ _ _ hk)⟩

set_option maxRecDepth 100000 in
theorem copied_any (e : Ent) (rv : Value) (w : World) (h : RecsAt w rv e.recs) (hl : e.recs.length ≤ 1048576) :
    Calls Try.prog 57 #[e.val rv] w fun r w' => ∃ rv', r = .returned (e.val rv') ∧ RecsOwn w' w.heap.size rv' e.recs ∧ Below w.heap.size w w' := by
  have hb := (Below.refl w.heap.size w).alloc (Nat.le_refl _) (.cells #[.int .i64 e.kind, .string (bs e.name), .int .u16 e.t, .int .u16 e.c, rv, .int .i64 e.til, .int .i64 e.rank, .int .i64 e.epoch, .int .i64 e.source] 25)
  unfold Ent.val
  go_enter Try.func57, Try.ntmps57
  go_wp2_with fail
  refine (clone_any rv e.recs _ ((h.below ((Below.refl _ w).alloc (Nat.le_refl _) _)).below ((Below.refl _ _).alloc (Nat.le_refl _) _)) hl).mono ?_
  rintro r w2 ⟨rv', rfl, hown, h2⟩
  have hz2 := h2.size
  rw [World.size_alloc, World.size_alloc] at hz2
  have hne : w.heap.size ≠ w.heap.size + 1 := by omega
  have r0 : w2.cell? ⟨w.heap.size, 0, none⟩ = some (.int .i64 e.kind) := (h2.cell (by simp; omega)).trans (by go_simp)
  have r1 : w2.cell? ⟨w.heap.size, 1, none⟩ = some (.string (bs e.name)) := (h2.cell (by simp; omega)).trans (by go_simp)
  have r2 : w2.cell? ⟨w.heap.size, 2, none⟩ = some (.int .u16 e.t) := (h2.cell (by simp; omega)).trans (by go_simp)
  have r3 : w2.cell? ⟨w.heap.size, 3, none⟩ = some (.int .u16 e.c) := (h2.cell (by simp; omega)).trans (by go_simp)
  have r4 : w2.cell? ⟨w.heap.size, 4, none⟩ = some (rv) := (h2.cell (by simp; omega)).trans (by go_simp)
  have r5 : w2.cell? ⟨w.heap.size, 5, none⟩ = some (.int .i64 e.til) := (h2.cell (by simp; omega)).trans (by go_simp)
  have r6 : w2.cell? ⟨w.heap.size, 6, none⟩ = some (.int .i64 e.rank) := (h2.cell (by simp; omega)).trans (by go_simp)
  have r7 : w2.cell? ⟨w.heap.size, 7, none⟩ = some (.int .i64 e.epoch) := (h2.cell (by simp; omega)).trans (by go_simp)
  have r8 : w2.cell? ⟨w.heap.size, 8, none⟩ = some (.int .i64 e.source) := (h2.cell (by simp; omega)).trans (by go_simp)
  have z0 : w2.cell? ⟨w.heap.size + 1, 0, none⟩ = some (.int .i64 0) := (h2.cell (by simp)).trans (by go_simp)
  have z1 : w2.cell? ⟨w.heap.size + 1, 1, none⟩ = some (.string ⟨#[]⟩) := (h2.cell (by simp)).trans (by go_simp)
  have z2 : w2.cell? ⟨w.heap.size + 1, 2, none⟩ = some (.int .u16 0) := (h2.cell (by simp)).trans (by go_simp)
  have z3 : w2.cell? ⟨w.heap.size + 1, 3, none⟩ = some (.int .u16 0) := (h2.cell (by simp)).trans (by go_simp)
  have z4 : w2.cell? ⟨w.heap.size + 1, 4, none⟩ = some (.slice none 0 0) := (h2.cell (by simp)).trans (by go_simp)
  have z5 : w2.cell? ⟨w.heap.size + 1, 5, none⟩ = some (.int .i64 0) := (h2.cell (by simp)).trans (by go_simp)
  have z6 : w2.cell? ⟨w.heap.size + 1, 6, none⟩ = some (.int .i64 0) := (h2.cell (by simp)).trans (by go_simp)
  have z7 : w2.cell? ⟨w.heap.size + 1, 7, none⟩ = some (.int .i64 0) := (h2.cell (by simp)).trans (by go_simp)
  have z8 : w2.cell? ⟨w.heap.size + 1, 8, none⟩ = some (.int .i64 0) := (h2.cell (by simp)).trans (by go_simp)
  have f0 : w2.frozen? ⟨w.heap.size, 4, none⟩ = false := (h2.frozen (by simp; omega)).trans (by go_simp)
  have f1 : w2.frozen? ⟨w.heap.size + 1, 0, none⟩ = false := (h2.frozen (by simp)).trans (by go_simp)
  have f2 : w2.frozen? ⟨w.heap.size + 1, 1, none⟩ = false := (h2.frozen (by simp)).trans (by go_simp)
  have f3 : w2.frozen? ⟨w.heap.size + 1, 2, none⟩ = false := (h2.frozen (by simp)).trans (by go_simp)
  have f4 : w2.frozen? ⟨w.heap.size + 1, 3, none⟩ = false := (h2.frozen (by simp)).trans (by go_simp)
  have f5 : w2.frozen? ⟨w.heap.size + 1, 4, none⟩ = false := (h2.frozen (by simp)).trans (by go_simp)
  have f6 : w2.frozen? ⟨w.heap.size + 1, 5, none⟩ = false := (h2.frozen (by simp)).trans (by go_simp)
  have f7 : w2.frozen? ⟨w.heap.size + 1, 6, none⟩ = false := (h2.frozen (by simp)).trans (by go_simp)
  have f8 : w2.frozen? ⟨w.heap.size + 1, 7, none⟩ = false := (h2.frozen (by simp)).trans (by go_simp)
  have f9 : w2.frozen? ⟨w.heap.size + 1, 8, none⟩ = false := (h2.frozen (by simp)).trans (by go_simp)
  obtain ⟨A, cap, rfl⟩ : ∃ A cap, rv' = .slice A e.recs.length cap := hown.shape
  obtain ⟨A0, cap0, rfl⟩ : ∃ A cap, rv = .slice A e.recs.length cap := h.shape
  have Hown := Lib.hid hown
  have H2 := Lib.hid h2
  clear hown h2
  go_wp2_with fail
  have fin : ∀ W : World, W = ((((((((((w2.setCell ⟨w.heap.size, 4, none⟩ (.slice A e.recs.length cap)).setCell ⟨w.heap.size + 1, 0, none⟩ (.int .i64 e.kind)).setCell ⟨w.heap.size + 1, 1, none⟩ (.string (bs e.name))).setCell
      ⟨w.heap.size + 1, 2, none⟩ (.int .u16 e.t)).setCell ⟨w.heap.size + 1, 3, none⟩ (.int .u16 e.c)).setCell ⟨w.heap.size + 1, 4, none⟩ (.slice A e.recs.length cap)).setCell ⟨w.heap.size + 1, 5, none⟩ (.int .i64 e.til)).setCell
      ⟨w.heap.size + 1, 6, none⟩ (.int .i64 e.rank)).setCell ⟨w.heap.size + 1, 7, none⟩ (.int .i64 e.epoch)).setCell ⟨w.heap.size + 1, 8, none⟩ (.int .i64 e.source)) → RecsOwn W w.heap.size (.slice A e.recs.length cap) e.recs ∧ Below w.heap.size w W := by
    intro W hW
    have m : ModS (fun k => k = w.heap.size ∨ k = w.heap.size + 1) w2 W := by
      rw [hW]
      exact ((((((((((ModS.refl _ w2).set (.inl rfl) _).set (.inr rfl) _).set (.inr rfl) _).set (.inr rfl) _).set (.inr rfl) _).set (.inr rfl) _).set (.inr rfl) _).set (.inr rfl) _).set (.inr rfl) _).set (.inr rfl) _
    have hb2 : Below w.heap.size w w2 := ((hb.alloc (by simp) _).trans (H2.out.mono (by simp; omega)))
    refine ⟨(Hown.out.same ?_).mono (by simp; omega), ModS.below_of hb2 m (by omega) (by intro k hk; omega)⟩
    intro k cur hk hc
    have hg : (w.heap.size + 2) ≤ k := by have := (own_cells Hown.out k hk).1; simp at this; omega
    exact m.block k (Array.getElem?_eq_some_iff.1 hc).1 (by omega)
  exact bodyPost_ret (v := .agg #[.int .i64 e.kind, .string (bs e.name), .int .u16 e.t, .int .u16 e.c, .slice A e.recs.length cap, .int .i64 e.til, .int .i64 e.rank, .int .i64 e.epoch, .int .i64 e.source]) (by simp [results, Try.results57, go_sem, z0, z1, z2, z3, z4, z5, z6, z7, z8]) rfl ⟨_, rfl, fin _ rfl⟩
end Go.Proofs.Ytihfapnipifiiaa
