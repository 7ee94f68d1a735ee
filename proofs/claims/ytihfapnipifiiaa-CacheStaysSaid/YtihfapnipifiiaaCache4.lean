/- The walks of cache.Expire and Next. -/
import Derived.Test.YtihfapnipifiiaaCache3
namespace Go.Proofs.Ytihfapnipifiiaa
open Go Go.RowKit Go.Shelf

/-- What a call that changes a cache keeps. -/
structure After (w : World) (c : Ca) (w' : World) (c' : Ca) : Prop where
  at' : CaAt w' c'
  cb : c'.cb = c.cb
  most : c'.most = c.most
  mod : ModS c.own w w'
  own : ∀ k, c'.own k → c.own k ∨ w.heap.size ≤ k
theorem After.refl {w : World} {c : Ca} (h : CaAt w c) : After w c w c := ⟨h, rfl, rfl, ModS.refl _ _, fun _ hk => .inl hk⟩
theorem After.trans {w w' w'' : World} {c c' c'' : Ca} (h : After w c w' c') (k : After w' c' w'' c'') : After w c w'' c'' where
  at' := k.at'
  cb := k.cb.trans h.cb
  most := k.most.trans h.most
  mod := h.mod.comp k.mod (fun i hi hT => (h.own i hT).elim id (fun e => absurd hi (by omega)))
  own := fun j hj => by
    have hs := h.mod.size
    rcases k.own j hj with h1 | h1
    · exact h.own j h1
    · exact .inr (by omega)
theorem CaAt.nodup {W : World} {c : Ca} (h : CaAt W c) : (c.ord.map It.blk).Nodup := (h.perm.map It.blk).nodup_iff.2 h.stale.items.2
theorem CaAt.len {W : World} {c : Ca} (h : CaAt W c) : c.ord.length = c.its.length := h.perm.length_eq
theorem blk_eq {l : List It} (hn : (l.map It.blk).Nodup) {x y : It} (hx : x ∈ l) (hy : y ∈ l) (e : x.blk = y.blk) : x = y := by
  obtain ⟨i, hi, rfl⟩ := List.getElem_of_mem hx
  obtain ⟨j, hj, rfl⟩ := List.getElem_of_mem hy
  have h1 : (l.map It.blk)[i]'(by simpa using hi) = (l.map It.blk)[j]'(by simpa using hj) := by rw [List.getElem_map, List.getElem_map, e]
  have h2 := (List.getElem_inj hn).1 h1
  subst h2; rfl
theorem drop_len {l : List It} (hn : (l.map It.blk).Nodup) {x : It} (hx : x ∈ l) : (l.filter fun y => y.blk != x.blk).length + 1 = l.length := by
  obtain ⟨s, t, rfl⟩ := List.append_of_mem hx
  rw [List.map_append, List.map_cons, List.nodup_append] at hn
  obtain ⟨h1, h2, h3⟩ := hn
  rw [List.nodup_cons] at h2
  rw [List.filter_append, List.filter_cons_of_neg (by simp), filter_blk h2.1, filter_blk (fun h => h3 _ h _ (List.mem_cons_self) rfl)]
  simp; omega
theorem drop_keeps {l : List It} (hn : (l.map It.blk).Nodup) {x : It} (hx : x ∈ l) (p : It → Bool) (hp : p x = false) : (l.filter fun y => y.blk != x.blk).filter p = l.filter p := by
  rw [List.filter_filter]
  refine List.filter_congr (fun y hy => ?_)
  by_cases e : y.blk = x.blk
  · rw [blk_eq hn hy hx e, hp]; rfl
  · have : (y.blk != x.blk) = true := bne_iff_ne.2 e
    rw [this, Bool.and_true]
theorem drop_after (c : Ca) (x : It) (w : World) (h : CaAt w c) (hx : x ∈ c.its) :
    Calls Try.prog 56 #[.pointer (some ⟨c.cb, 0, none⟩), x.ptr] w fun e w' => e = .returned (.tuple #[]) ∧
      ∃ c', After w c w' c' ∧ c'.uses = c.uses ∧ c'.ord = c.ord.filter (fun y => y.blk != x.blk) := by
  refine (drop_any c x w h hx).mono ?_
  rintro e w' ⟨rfl, c', h1, h2, h3, h4, h5, h6, h7⟩
  exact ⟨rfl, c', ⟨h1, h2, h3, h6, fun k hk => .inl (h7 k hk)⟩, h4, h5⟩

/-- The first item in memory. -/
theorem CaAt.first {W : World} {c : Ca} (h : CaAt W c) {x : It} (hx : c.its[0]? = some x) :
    ∃ g cap, c.sv = .slice (some ⟨g, 0, none⟩) c.its.length cap ∧ W.cell? ⟨g, 0, none⟩ = some (.pointer (some ⟨x.blk, 0, none⟩)) ∧ W.cell? ⟨x.blk, 5, none⟩ = some (.int .i64 x.ent.til) ∧ ∀ y ∈ c.its, x.ent.til ≤ y.ent.til := by
  rcases h.stale with ⟨_, e⟩ | ⟨g, cap, e, hb, hr⟩
  · rw [e] at hx; cases hx
  · refine ⟨g, cap, e, (hr.rowAt hx).1, (hr.items 0 x hx).cell (o := 5) rfl, ?_⟩
    intro y hy
    obtain ⟨k, hk⟩ := List.getElem?_of_mem hy
    have h1 := heap_least h.heap k (List.getElem?_eq_some_iff.1 hk).1
    rw [untilAt_of hx, untilAt_of hk] at h1
    exact h1

set_option maxRecDepth 100000 in
theorem expire_any (c : Ca) (now : Int) (w : World) (h : CaAt w c) :
    Calls Try.prog 45 #[.pointer (some ⟨c.cb, 0, none⟩), .int .i64 now] w fun e w' => ∃ c', e = .returned (.int .i64 (c.ord.length - c'.ord.length : Nat)) ∧ After w c w' c' ∧ c'.uses = c.uses ∧ c'.ord = c.ord.filter (fun x => decide (now ≤ x.ent.til)) := by
  have H := Lib.hid h
  have hfew : c.ord.length ≤ 1000000 := by rw [h.len]; exact h.few
  clear h
  go_enter Try.func45, Try.ntmps45
  go_wp2
  go_loopw [5] (fun n_ wr => ∃ c', n_ = .int .i64 (c.ord.length - c'.ord.length : Nat) ∧ After w c wr c' ∧ c'.uses = c.uses ∧ c'.ord.length ≤ c.ord.length ∧ c'.ord.filter (fun x => decide (now ≤ x.ent.til)) = c.ord.filter (fun x => decide (now ≤ x.ent.til))) (fun n_ _ => c.ord.length - (intOf n_).toNat)
  case atStart =>
    exact ⟨c, by rw [Nat.sub_self]; rfl, After.refl H.out, rfl, Nat.le_refl _, rfl⟩
  case round =>
    obtain ⟨c', rfl, ha, hu, hl, hf⟩ := hrel
    have hat := ha.at'
    obtain ⟨⟨c0, c1, c2, c3⟩, f0⟩ := hat.cells
    rw [ha.cb] at c2
    by_cases h0 : c'.its = []
    · obtain ⟨A, cap, hsv⟩ : ∃ A cap, c'.sv = .slice A 0 cap := by
        rcases hat.stale with ⟨e, _⟩ | ⟨g, cap, e, _, _⟩
        · exact ⟨none, 0, e⟩
        · exact ⟨_, _, by rw [e, h0]; rfl⟩
      rw [hsv] at c2
      have Ha := Lib.hid ha
      have Hf := Lib.hid hf
      clear ha hat c0 c1 c3 f0 hsv hf
      go_wp2
      go_ret
      refine ⟨c', rfl, Ha.out, hu, ?_⟩
      have he : c'.ord = [] := List.eq_nil_of_length_eq_zero (by rw [Ha.out.at'.len, h0]; rfl)
      rw [← Hf.out, he]; rfl
    · obtain ⟨x, hx⟩ := get_of_lt (List.length_pos_iff.2 h0)
      obtain ⟨g, cap, hsv, q0, q1, hmin⟩ := hat.first hx
      rw [hsv] at c2
      have hpos : 0 < c'.its.length := List.length_pos_iff.2 h0
      have hmem := List.mem_of_getElem? hx
      by_cases hn : x.ent.til < now
      · have hc : Calls Try.prog 56 #[.pointer (some ⟨c.cb, 0, none⟩), .pointer (some ⟨x.blk, 0, none⟩)] wr fun e w' => e = .returned (.tuple #[]) ∧
            ∃ c'', After wr c' w' c'' ∧ c''.uses = c'.uses ∧ c''.ord = c'.ord.filter (fun y => y.blk != x.blk) := by
          rw [← ha.cb]; exact drop_after c' x wr hat hmem
        have Hc := Lib.hid hc
        have Ha := Lib.hid ha
        have Hn := Lib.hid hn
        have hd := decide_eq_true hn
        clear hc ha hat c0 c1 c3 f0 h0 hsv hmin hn
        have Hf := Lib.hid hf
        clear hf
        have hw : wrap64 ((c.ord.length - c'.ord.length : Nat) + 1) = ((c.ord.length - c'.ord.length : Nat) : Int) + 1 := by unfold wrap64; omega
        go_wp2_with fail
        refine Hc.out.mono ?_
        rintro e w2 ⟨rfl, c2', ha2, hu2, hord⟩
        have hol : c'.ord.length = c'.its.length := Ha.out.at'.len
        have hxo : x ∈ c'.ord := Ha.out.at'.perm.mem_iff.2 hmem
        have hdl := drop_len Ha.out.at'.nodup hxo
        rw [← hord] at hdl
        have ha3 := Ha.out.trans ha2
        have hk : c2'.ord.filter (fun x => decide (now ≤ x.ent.til)) = c.ord.filter (fun x => decide (now ≤ x.ent.til)) := by
          rw [hord, drop_keeps Ha.out.at'.nodup hxo _ (decide_eq_false (by have := Hn.out; omega)), Hf.out]
        have Hk := Lib.hid hk
        have Ha3 := Lib.hid ha3
        clear ha2 ha3 hk
        go_wp2
        refine ⟨⟨c2', ?_, Ha3.out, by rw [hu2]; exact hu, by omega, Hk.out⟩, by simp [intOf]; omega⟩
        congr 1
        omega
      · have hd : decide (x.ent.til < now) = false := decide_eq_false hn
        have Ha := Lib.hid ha
        have Hn := Lib.hid hn
        have Hf := Lib.hid hf
        have Hmin := Lib.hid hmin
        clear ha hat c0 c1 c3 f0 h0 hsv hmin hn hf
        go_wp2
        go_ret
        refine ⟨c', rfl, Ha.out, hu, ?_⟩
        rw [← Hf.out]
        refine (List.filter_eq_self.2 ?_).symm
        intro y hy
        have := Hmin.out y (Ha.out.at'.perm.mem_iff.1 hy)
        have := Hn.out
        exact decide_eq_true (by omega)

set_option maxRecDepth 100000 in
theorem next_any (c : Ca) (w : World) (h : CaAt w c) :
    Calls Try.prog 44 #[.pointer (some ⟨c.cb, 0, none⟩)] w fun e w' => w = w' ∧ ((c.its = [] ∧ e = .returned (.tuple #[.int .i64 0, .bool false])) ∨ ∃ x ∈ c.its, e = .returned (.tuple #[.int .i64 x.ent.til, .bool true]) ∧ ∀ y ∈ c.its, x.ent.til ≤ y.ent.til) := by
  have hlen := len_any c w h
  by_cases h0 : c.its = []
  · rw [h0] at hlen
    have Hlen := Lib.hid hlen
    have H0 := Lib.hid h0
    clear h h0 hlen
    go_enter Try.func44, Try.ntmps44
    go_wp2_with fail
    refine Hlen.out.mono ?_
    rintro e w1 ⟨rfl, rfl⟩
    dsimp only [List.length_nil]
    go_wp2
    go_ret2
    exact ⟨rfl, .inl ⟨H0.out, rfl⟩⟩
  · have hpos : 0 < c.its.length := List.length_pos_iff.2 h0
    obtain ⟨x, hx⟩ := get_of_lt hpos
    obtain ⟨⟨c0, c1, c2, c3⟩, f0⟩ := h.cells
    obtain ⟨g, cap, hsv, q0, q1, hmin⟩ := h.first hx
    rw [hsv] at c2
    have hd : ((c.its.length : Int) == 0) = false := beq_eq_false_iff_ne.2 (by omega)
    have Hlen := Lib.hid hlen
    have Hmin := Lib.hid hmin
    have Hx := Lib.hid hx
    clear h h0 hlen hmin hx c0 c1 c3 f0 hsv
    go_enter Try.func44, Try.ntmps44
    go_wp2_with fail
    refine Hlen.out.mono ?_
    rintro e w1 ⟨rfl, rfl⟩
    go_wp2
    go_ret2
    exact ⟨rfl, .inr ⟨x, List.mem_of_getElem? Hx.out, rfl, Hmin.out⟩⟩
theorem next_nil (w : World) :
    Calls Try.prog 44 #[.pointer none] w fun e w' => w = w' ∧ e = .returned (.tuple #[.int .i64 0, .bool false]) := by
  go_enter Try.func44, Try.ntmps44
  go_wp2_with fail
  refine (len_nil _).mono ?_
  rintro e w1 ⟨rfl, rfl⟩
  go_wp2
  go_ret2
  exact ⟨rfl, rfl⟩
theorem expire_nil (now : Int) (w : World) :
    Calls Try.prog 45 #[.pointer none, .int .i64 now] w fun e w' => e = .returned (.int .i64 0) ∧ w = w' := by
  go_enter Try.func45, Try.ntmps45
  go_wp2
  go_loopw [5] (fun n_ wr => n_ = .int .i64 0 ∧ w = wr) (fun n_ _ => 0)
  case atStart => exact ⟨rfl, rfl⟩
  case round =>
    obtain ⟨rfl, rfl⟩ := hrel
    go_wp2
    go_ret
    exact ⟨rfl, rfl⟩
end Go.Proofs.Ytihfapnipifiiaa
