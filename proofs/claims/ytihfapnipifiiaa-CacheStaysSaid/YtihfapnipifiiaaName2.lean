/- The walks of package name: each, Labels, Check, Depth. -/
import Derived.Test.YtihfapnipifiiaaName1
namespace Go.Proofs.Ytihfapnipifiiaa
open Go Go.RowKit Go.Shelf
attribute [local go_sem] Oper.semAt_some

set_option maxRecDepth 100000 in
theorem each_any (s : ByteArray) (ep : Addr) (w : World) :
    Calls Try.prog 107 #[.string s, .pointer (some ep)] w fun e w' => e = .returned (.func (.func 119) #[] #[.pointer (some ⟨w.heap.size + 1, 0, none⟩), .pointer (some ⟨w.heap.size, 0, none⟩)]) ∧
      (w.alloc (.cells #[.string s] 9)).alloc (.cells #[.pointer (some ep)] 167) = w' := by
  go_enter Try.func107, Try.ntmps107
  go_wp2
  go_ret
  exact ⟨rfl, rfl⟩

/-- A row of strings of the call's own. -/
def Strs (w : World) (B : Nat) (v : Value) (ls : List (List UInt8)) : Prop := w.ownsRow B 9 1 v ls.length (ls.map fun l => Value.string (bs l))

/-- What Labels hands back. -/
def LabPost (s : ByteArray) (w : World) (e : Ending) (w' : World) : Prop :=
  ∃ v ls, e = .returned (.tuple #[v, .int .i64 (chk (lst s))]) ∧ Below w.heap.size w w' ∧ Strs w' w.heap.size v ls ∧ (chk (lst s) = 0 → lab (lst s) = some ls) ∧ (chk (lst s) ≠ 0 → ls = [])

def labOf (s : ByteArray) (x : Nat × Nat) : List UInt8 := ((lst s).drop (x.1 + 1)).take x.2
theorem labOf_extract (s : ByteArray) (x : Nat × Nat) : s.extract (x.1 + 1) (x.1 + 1 + x.2) = bs (labOf s x) := by
  rw [extract_bs]; unfold labOf; congr 2; omega

/-- Between two rounds of Labels. -/
def LabI (s : ByteArray) (w : World) (xs : List (Nat × Nat)) (W : World) : Prop :=
  ∃ v, W.cell? ⟨w.heap.size, 0, none⟩ = some v ∧ W.frozen? ⟨w.heap.size, 0, none⟩ = false ∧ Strs W (w.heap.size + 4) v (xs.map (labOf s)) ∧ Below w.heap.size w W
theorem LabI.putObj {s : ByteArray} {w : World} {xs : List (Nat × Nat)} {W : World} {r : Nat} {o o' : Obj} (h : LabI s w xs W) (hr : w.heap.size ≤ r) (ho : W.heap[r]? = some o) (hc : o.isCells = false) : LabI s w xs (W.putObj r o') := by
  obtain ⟨v, h1, h2, h3, h4⟩ := h
  exact ⟨v, (putObj_cell ho hc _ h1).1, (putObj_cell ho hc _ h1).2.trans h2, putObj_own ho hc h3, putObj_below h4 hr⟩
theorem Strs.set {w : World} {B : Nat} {v : Value} {ls : List (List UInt8)} (h : Strs w B v ls) {a : Addr} (ha : a.block < B) (u : Value) : Strs (w.setCell a u) B v ls := own_set h ha u
theorem Strs.below {w w1 : World} {B : Nat} {v : Value} {ls : List (List UInt8)} (h : Strs w B v ls) (hb : Below w.heap.size w w1) : Strs w1 B v ls := own_below h hb
theorem Strs.mono {w : World} {B B' : Nat} {v : Value} {ls : List (List UInt8)} (h : Strs w B v ls) (hB : B' ≤ B) : Strs w B' v ls := by
  refine ⟨h.1, h.2.imp id ?_⟩
  rintro ⟨g, cap, cur, e, hg, r⟩
  exact ⟨g, cap, cur, e, by omega, r⟩
theorem Strs.shape {w : World} {B : Nat} {v : Value} {ls : List (List UInt8)} (h : Strs w B v ls) : ∃ A cap, v = .slice A ls.length cap := by
  rcases h.2 with ⟨rfl, hn⟩ | ⟨g, cap, cur, rfl, _⟩
  · exact ⟨none, 0, by rw [hn]⟩
  · exact ⟨_, _, rfl⟩
theorem Strs.nil (w : World) (B : Nat) : Strs w B (.slice none 0 0) [] := World.ownsRow_nil _ _ _ _

set_option maxRecDepth 100000 in
set_option maxHeartbeats 1000000 in
theorem labels_any (s : ByteArray) (w : World) (hs : s.size ≤ 1099511627776) :
    Calls Try.prog 90 #[.string s] w (LabPost s w) := by
  obtain ⟨i0, hi, hz0, hz1, hz2⟩ := info_parts info_string
  refine (callsIn_wide (n := 3)).1 ?_
  refine callsIn_of_wp_marks Try.func90 rfl trivial ?_
  simp only [Try.ntmps90, List.size_toArray, List.length_cons, List.length_nil, Nat.reduceAdd, Nat.reduceSub, Array.replicate_succ, Array.replicate_zero, List.push_toArray, List.append_toArray, List.nil_append, List.cons_append]
  gi_wp2_with (refine ⟨trivial, ?_⟩; gi_at_call 107; refine (callsIn_wide.2 (each_any _ _ _)).mono ?_; rintro e w' ⟨rfl, rfl⟩)
  have hlen : (lst s).length = s.size := lst_length s
  have Hlen := Lib.hid hlen
  clear hlen
  generalize hW0 : (((w.alloc (Obj.cells #[Value.slice none 0 0] 47)).alloc (Obj.cells #[Value.int IntKind.i64 0] 3)).alloc (Obj.cells #[Value.string s] 9)).alloc (Obj.cells #[Value.pointer (some { block := w.heap.size + 1, off := 0 })] 167) = W0
  have f0 : W0.heap.size = w.heap.size + 4 := by rw [← hW0]; simp
  have f1 : W0.cell? ⟨w.heap.size, 0, none⟩ = some (.slice none 0 0) ∧ W0.frozen? ⟨w.heap.size, 0, none⟩ = false := by subst hW0; exact ⟨by go_simp, by go_simp⟩
  have f2 : W0.cell? ⟨w.heap.size + 1, 0, none⟩ = some (.int .i64 0) ∧ W0.frozen? ⟨w.heap.size + 1, 0, none⟩ = false := by subst hW0; exact ⟨by go_simp, by go_simp⟩
  have f3 : W0.cell? ⟨w.heap.size + 1 + 1, 0, none⟩ = some (.string s) := by subst hW0; go_simp
  have f4 : W0.cell? ⟨w.heap.size + 1 + 1 + 1, 0, none⟩ = some (.pointer (some ⟨w.heap.size + 1, 0, none⟩)) := by subst hW0; go_simp
  have f5 : Below w.heap.size w W0 := by rw [← hW0]; exact ((((Below.refl _ w).alloc (Nat.le_refl _) _).alloc (by simp) _).alloc (by simp; omega) _).alloc (by simp; omega) _
  clear hW0
  have two : ∀ (o1 o2 : Obj), Below W0.heap.size W0 ((W0.alloc o1).alloc o2) := fun o1 o2 => ((Below.refl _ W0).alloc (Nat.le_refl _) _).alloc (by simp) _
  refine wp_rangeFunc_mine (gf := 119) (lb := #[.pointer (some ⟨w.heap.size + 1 + 1 + 1, 0, none⟩), .pointer (some ⟨w.heap.size + 1 + 1, 0, none⟩)]) rfl (enters_of Try.func119 (by kernel_rfl) rfl)
    (enc := eachEnc s) (Kp := EachKp (w.heap.size + 1 + 1) (w.heap.size + 1 + 1 + 1) ⟨w.heap.size + 1, 0, none⟩) (It := EachIt ⟨w.heap.size + 1, 0, none⟩) (Pf := EachPf s) (Dn := EachDn s ⟨w.heap.size + 1, 0, none⟩)
    (fun _ => rfl) (LabI s w) (fun _ _ _ => False) ?iter KeepC.trans ?kb ?it ?ii (fun _ _ _ _ _ h hr ho hc => h.putObj (by omega) ho hc) (fun _ _ _ _ _ _ h _ _ _ => h.elim) ?dn ?h0
    (fun x => { tmps := #[Value.string s, undef, Value.slice none 0 0, Value.int IntKind.i64 0, Value.pointer (some { block := w.heap.size, off := 0 }), Value.pointer (some { block := w.heap.size + 1, off := 0 }), undef, .string (s.extract (x.1 + 1) (x.1 + 1 + x.2)), Value.string s,
          Value.func (Fn.func 119) #[] #[Value.pointer (some { block := w.heap.size + 1 + 1 + 1, off := 0 }), Value.pointer (some { block := w.heap.size + 1 + 1, off := 0 })],
          .int .i64 x.1, .string (s.extract (x.1 + 1) (x.1 + 1 + x.2)), undef, undef, undef, undef, undef, undef, undef, undef, undef, undef, undef, undef, undef, undef, undef, undef, undef, undef, undef], defers := [] }) ?assign ?body ?done ?stop
  case iter =>
    intro o1 o2 _ _
    have b := two o1 o2
    exact each_iter s _ _ _ _ hs ((b.cell (by simp; omega)).trans f3) ((b.cell (by simp; omega)).trans f4) 0 ((b.cell (by simp; omega)).trans f2.1) ((b.frozen (by simp; omega)).trans f2.2) (by simp <;> omega) (by simp <;> omega)
  case kb =>
    intro W r o o' hr ho hc a ha
    have hne : a.block ≠ r := by
      have : a.block < w.heap.size + 4 := by rcases ha with h | h | h <;> rw [h] <;> simp <;> omega
      omega
    have e := World.putObj_heap_other (w := W) (o := o') hne
    exact ⟨World.cell?_of_block e, World.frozen?_of_block e⟩
  case it =>
    rintro A B r o ⟨v, _, rfl⟩ hr hr2 ho hc
    exact (Below.heap_setCell _ _ _ _ (by simp; omega)).trans ho
  case ii =>
    rintro xs A B ⟨v, h1, h2, h3, h4⟩ ⟨u, _, rfl⟩
    exact ⟨v, (cell_set_ne (by simp)).trans h1, frozen_set.trans h2, h3.set (by simp) _, h4.setCell (by simp) _⟩
  case dn =>
    rintro xs W r o o' ⟨h1, h2⟩ hr ho hc
    exact ⟨h1, (putObj_cell ho hc _ h2).1⟩
  case h0 =>
    intro o1 o2 _ _
    have b := two o1 o2
    exact ⟨_, (b.cell (by simp; omega)).trans f1.1, (b.frozen (by simp; omega)).trans f1.2, Strs.nil _ _, f5.trans (b.mono (by omega))⟩
  case assign =>
    intro l x W K hK
    simp only [eachEnc]
    gi_wp2
    exact hK
  case body =>
    rintro l xs x W ⟨v, hc, hf, hown, hB⟩ hpf hsz
    unfold Strs at hown
    have hle : xs.length + 1 ≤ 1099511627776 := by
      have h1 := hpf.length_le
      have h2 := (scan_le (lst s)).2.2
      have := Hlen.out
      simp only [List.length_append, List.length_cons, List.length_nil] at h1
      omega
    have Hown := Lib.hid hown
    clear hpf
    gi_wp2_with (gi_at_builtin; refine wpListIn_append_own _ rfl _ _ 47 rfl (w.heap.size + 4) 9 i0 (.string ⟨#[]⟩) 1 16 Try.underlying47 hi hz0 hz1 hz2 rfl (by decide) _ _ _ rfl (Hown.out.alloc _) ⟨W.heap.size, 0, none⟩ 1 1 [.string (s.extract (x.1 + 1) (x.1 + 1 + x.2))] rfl rfl (cell_one_new _ _ _) ?c2 ?c3 ?c4 ?c5 ?_)
    case c2 => intro u hu; simp only [List.mem_singleton] at hu; subst hu; rfl
    case c3 => simp only [List.length_map, maxLen]; omega
    case c4 => simp only [List.length_map]; omega
    case c5 => simp; have := hB.size; omega
    intro v' w1 hown1 hgrow1 _
    obtain ⟨g', cap', rfl⟩ := ownsRow_succ hown1
    have hne : v.ownBlock ≠ some w.heap.size := by
      rcases own_ne Hown.out w.heap.size (by omega) with h | h
      · rw [h]; simp
      · exact h
    have hc1 := (grown_cell hgrow1 (alloc_cell hc _).1 hne).1
    have hf1 := (grown_cell hgrow1 (alloc_cell hc _).1 hne).2.trans ((alloc_cell hc _).2.trans hf)
    have Hown1 := Lib.hid hown1
    have Hgrow1 := Lib.hid hgrow1
    clear hown1 hgrow1
    gi_wp2
    have hown1 := Hown1.out
    have hgrow1 := Hgrow1.out
    have hnc : ∀ k, v.ownBlock = some k → ∃ c e f, (W.alloc (Obj.cells #[Value.string (s.extract (x.1 + 1) (x.1 + 1 + x.2))] 9)).heap[k]? = some (.cells c e f) := by
      intro k hk
      obtain ⟨_, cur, h⟩ := own_cells (Hown.out.alloc (.cells #[Value.string (s.extract (x.1 + 1) (x.1 + 1 + x.2))] 9)) k hk
      exact ⟨_, _, _, h⟩
    refine ⟨((keepsNC_alloc _ _ _).trans (keepsNC_grown hgrow1 hnc)).trans (keepsNC_set _ _ _ _), ?_, ?_⟩
    · intro a ha
      have hlo : w.heap.size < a.block ∧ a.block < w.heap.size + 4 := by rcases ha with h | h | h <;> rw [h] <;> simp <;> omega
      have e1 := Below.heap_alloc W (Obj.cells #[Value.string (s.extract (x.1 + 1) (x.1 + 1 + x.2))] 9) a.block (by omega)
      have e2 := hgrow1.block a.block (by simp; omega) (by
        rcases own_ne Hown.out a.block (by omega) with h | h
        · rw [h]; simp
        · exact fun e => h e.symm)
      have e := fun u => (Below.heap_setCell w1 ⟨w.heap.size, 0, none⟩ u a.block (by simp; omega)).trans (e2.trans e1)
      exact ⟨World.cell?_of_block (e _), World.frozen?_of_block (e _)⟩
    · refine ⟨_, cell_set_same hc1, frozen_set.trans hf1, ?_, ?_⟩
      · refine Strs.set ?_ (by simp) _
        unfold Strs
        rw [List.map_append, List.map_append, List.map_cons, List.map_nil, List.map_cons, List.map_nil, List.length_append, List.length_cons, List.length_nil, ← labOf_extract]
        simp only [List.length_map, List.map_map, Nat.zero_add] at hown1 ⊢
        exact hown1
      · refine Below.setCell ?_ (by simp) _
        exact (hB.alloc (by have := hB.size; omega) _).grown hgrow1 (by simp; have := hB.size; omega) (fun k hk => by have := (own_cells Hown.out k hk).1; omega)
  case done =>
    rintro D xs W rfl ⟨rfl, hend⟩ ⟨v, h1, h2, h3, h4⟩ hD
    have hD' := hD
    rw [f0] at hD'
    obtain ⟨E, HE⟩ : ∃ E, Hid ((scan (lst s) 0).2 = E) := ⟨_, rfl⟩
    rw [HE.out] at hend
    have hE1 : -1 ≤ E := by have := (scan_le (lst s)).1; rw [HE.out] at this; exact this
    have hE2 : E ≤ s.size := by have := (scan_le (lst s)).2.1; rw [HE.out, Hlen.out] at this; exact this
    have Hlab := Lib.hid (lab_of_scan (lst s))
    rw [HE.out, Hlen.out] at Hlab
    by_cases ha : E = (s.size : Int) - 1
    · have hb : (E != (s.size : Int) - 1) = false := by rw [ha]; simp
      have Ha := Lib.hid ha
      clear ha
      by_cases hneg : E < 0
      · gi_wp2
        refine ⟨by simp, .inl ⟨_, _, rfl, run_takeDeferred (by first | exact hD | exact hD'), ?_⟩⟩
        refine ⟨_, results_tmp2 rfl _ _ _, ?_⟩
        have hchk : chk (lst s) = 10 := by
          exact chk_none (by rw [Hlab.out, if_neg (by rintro ⟨_, h⟩; omega)])
        exact ⟨_, [], by rw [hchk]; rfl, putObj_below h4 (by omega), Strs.nil _ _, fun h => (by rw [hchk] at h; cases h), fun _ => rfl⟩
      · have hpos : 0 ≤ E := by omega
        by_cases hbig : 255 < s.size
        · gi_wp2
          refine ⟨by simp, .inl ⟨_, _, rfl, run_takeDeferred (by first | exact hD | exact hD'), ?_⟩⟩
          refine ⟨_, results_tmp2 rfl _ _ _, ?_⟩
          have hchk : chk (lst s) = 11 := by
            exact chk_big (by rw [Hlab.out, if_pos ⟨Ha.out, hpos⟩]) (by rw [Hlen.out]; exact hbig)
          exact ⟨_, [], by rw [hchk]; rfl, putObj_below h4 (by omega), Strs.nil _ _, fun h => (by rw [hchk] at h; cases h), fun _ => rfl⟩
        · gi_wp2
          refine ⟨by simp, .inl ⟨_, _, rfl, run_takeDeferred (by first | exact hD | exact hD'), ?_⟩⟩
          refine ⟨_, results_tmp2 rfl _ _ _, ?_⟩
          have hchk : chk (lst s) = 0 := by
            exact chk_ok (by rw [Hlab.out, if_pos ⟨Ha.out, hpos⟩]) (by rw [Hlen.out]; omega)
          refine ⟨v, (scan (lst s) 0).1.map (labOf s), by rw [hchk]; rfl, putObj_below h4 (by omega), ?_, fun _ => ?_, fun h => absurd hchk h⟩
          · exact Strs.mono (putObj_own (by first | exact hD | exact hD') rfl h3) (by omega)
          · rw [Hlab.out, if_pos ⟨Ha.out, hpos⟩]; rfl
    · have hb : (E != (s.size : Int) - 1) = true := by rw [bne_iff_ne]; exact ha
      have Ha := Lib.hid ha
      clear ha
      gi_wp2
      refine ⟨by simp, .inl ⟨_, _, rfl, run_takeDeferred (by first | exact hD | exact hD'), ?_⟩⟩
      refine ⟨_, results_tmp2 rfl _ _ _, ?_⟩
      have hchk : chk (lst s) = 10 := by
        exact chk_none (by rw [Hlab.out, if_neg (by rintro ⟨h, _⟩; exact Ha.out h)])
      exact ⟨_, [], by rw [hchk]; rfl, putObj_below h4 (by omega), Strs.nil _ _, fun h => (by rw [hchk] at h; cases h), fun _ => rfl⟩
  case stop =>
    rintro D c xs W _ h _
    exact h.elim

set_option maxRecDepth 100000 in
theorem check_any (s : ByteArray) (w : World) (hs : s.size ≤ 1099511627776) :
    Calls Try.prog 48 #[.string s] w fun e w' => e = .returned (.int .i64 (chk (lst s))) ∧ Below w.heap.size w w' := by
  go_enter Try.func48, Try.ntmps48
  go_wp2_with (go_at_call 90; refine (labels_any s _ hs).mono ?_; rintro e w' ⟨v, ls, rfl, hb, _, _, _⟩)
  go_ret
  exact ⟨rfl, hb⟩

/-- How many labels a name has; -1: it is none. -/
def depth (l : List UInt8) : Int := if chk l = 0 then (((lab l).map List.length).getD 0 : Nat) else -1

set_option maxRecDepth 100000 in
theorem depth_any (s : ByteArray) (w : World) (hs : s.size ≤ 1099511627776) :
    Calls Try.prog 80 #[.string s] w fun e w' => e = .returned (.int .i64 (depth (lst s))) ∧ Below w.heap.size w w' := by
  by_cases hc : chk (lst s) = 0
  · go_enter Try.func80, Try.ntmps80
    go_wp2_with (go_at_call 90; refine (labels_any s _ hs).mono ?_; rintro e w' ⟨v, ls, rfl, hb, hst, hl, hz⟩; have Hl := Lib.hid (hl hc); obtain ⟨A, cap, rfl⟩ := hst.shape; clear hl hz)
    go_ret
    exact ⟨by unfold depth; rw [if_pos hc, Hl.out]; rfl, hb⟩
  · have hne : ((chk (lst s) : Int) != 0) = true := by rw [bne_iff_ne]; exact hc
    have Hc := Lib.hid hc
    clear hc
    go_enter Try.func80, Try.ntmps80
    go_wp2_with (go_at_call 90; refine (labels_any s _ hs).mono ?_; rintro e w' ⟨v, ls, rfl, hb, hst, hl, hz⟩; clear hl hz)
    go_ret
    exact ⟨by unfold depth; rw [if_neg Hc.out]; rfl, hb⟩
end Go.Proofs.Ytihfapnipifiiaa
