/- What package record and its reference compute, as plain functions on lists of bytes. The walks of package record: shapeOf, cut. The walks of package record: cut. The walks of package record: right, Check, Life. -/
import Derived.Test.YtihfapnipifiiaaName
import Derived.Test.YtihfapnipifiiaaRef3
import Derived.Deep.RegionLaw
import Derived.Deep.AppendLies
import Derived.StillTailTactics
set_option linter.unusedVariables false
set_option linter.unusedSimpArgs false
/- What package record and its reference compute, as plain functions on lists of bytes. -/
namespace Go.Proofs.Ytihfapnipifiiaa

/-- How far the lengths lead from a row's begin on. -/
def skip : List UInt8 → Nat
  | [] => 0
  | c :: r => if c = 0 then 0 else 1 + c.toNat + skip (r.drop c.toNat)
termination_by l => l.length
decreasing_by simp only [List.length_drop, List.length_cons]; omega
theorem skip_nil : skip [] = 0 := by rw [skip]
theorem skip_end {l : List UInt8} {k : Nat} (h : l.length ≤ k) : skip (l.drop k) = 0 := by rw [List.drop_eq_nil_of_le h, skip_nil]
theorem skip_zero {l : List UInt8} {k : Nat} (h : l[k]? = some 0) : skip (l.drop k) = 0 := by rw [drop_cons h, skip, if_pos rfl]
theorem skip_step {l : List UInt8} {k : Nat} {c : UInt8} (h : l[k]? = some c) (h0 : c ≠ 0) : skip (l.drop k) = 1 + c.toNat + skip (l.drop (k + 1 + c.toNat)) := by
  rw [drop_cons h, skip, if_neg h0, List.drop_drop]

/-- A name at the begin, and what stands behind it. -/
def firstN (l : List UInt8) : Option (List UInt8 × List UInt8) :=
  if skip l < l.length ∧ chk (l.take (skip l + 1)) = 0 then some (l.take (skip l + 1), l.drop (skip l + 1)) else none
/-- So many names, one behind the other, and what stands behind them. -/
def takeN : Nat → List UInt8 → Option (List (List UInt8) × List UInt8)
  | 0, l => some ([], l)
  | n + 1, l => match takeN n l with
    | none => none
    | some (ns, r) => match firstN r with
      | none => none
      | some (x, r') => some (ns ++ [x], r')
/-- How the data of a type are: so many bytes, so many names, so many bytes. -/
def shapeL (t : Int) : Nat × Nat × Nat := if t = 2 ∨ t = 5 ∨ t = 12 then (0, 1, 0) else if t = 15 then (2, 1, 0) else if t = 6 then (0, 2, 20) else (0, 0, 0)
/-- The names in data, and what stands behind them. -/
def cutL (h : Nat × Nat × Nat) (d : List UInt8) : Option (List (List UInt8) × List UInt8) := if d.length < h.1 then none else takeN h.2.1 (d.drop h.1)
def cutOk (h : Nat × Nat × Nat) (d : List UInt8) : Bool := match cutL h d with
  | none => false
  | some (_, r) => decide (r.length = h.2.2)
/-- Where the lengths of a text's pieces lead. -/
def pieces : List UInt8 → Nat
  | [] => 0
  | c :: r => 1 + c.toNat + pieces (r.drop c.toNat)
termination_by l => l.length
decreasing_by simp only [List.length_drop, List.length_cons]; omega
theorem pieces_end {l : List UInt8} {k : Nat} (h : l.length ≤ k) : pieces (l.drop k) = 0 := by rw [List.drop_eq_nil_of_le h, pieces]
theorem pieces_step {l : List UInt8} {k : Nat} {c : UInt8} (h : l[k]? = some c) : pieces (l.drop k) = 1 + c.toNat + pieces (l.drop (k + 1 + c.toNat)) := by
  rw [drop_cons h, pieces, List.drop_drop]
/-- Are data right for a type? -/
def rightL (t : Int) (d : List UInt8) : Bool :=
  if t = 1 then decide (d.length = 4) else if t = 28 then decide (d.length = 16) else if t = 16 then decide (pieces d = d.length) && decide (0 < d.length)
  else cutOk (shapeL t) d || decide (shapeL t = (0, 0, 0))
/-- What record.Check answers. -/
def rchk (n : List UInt8) (t : Int) (d : List UInt8) : Int := if chk n ≠ 0 then chk n else if 2000 < d.length then 11 else if rightL t d then 0 else 10
end Go.Proofs.Ytihfapnipifiiaa
/- The walks of package record: shapeOf, cut. -/
namespace Go.Proofs.Ytihfapnipifiiaa
open Go Go.RowKit Go.Shelf

def shapeV (h : Nat × Nat × Nat) : Value := .agg #[.int .i64 h.1, .int .i64 h.2.1, .int .i64 h.2.2]

set_option maxRecDepth 100000 in
set_option maxHeartbeats 1000000 in
theorem shapeOf_any (t : Int) (w : World) (h0 : 0 ≤ t) (h1 : t ≤ 65535) :
    Calls Try.prog 104 #[.int .u16 t] w fun e w' => e = .returned (shapeV (shapeL t)) ∧ Below w.heap.size w w' := by
  have nb : ∀ c : Int, t ≠ c → (t == c) = false := fun c h => beq_eq_false_iff_ne.2 h
  by_cases e2 : t = 2
  · subst e2
    go_enter Try.func104, Try.ntmps104
    go_wp2
    exact bodyPost_ret (v := shapeV (shapeL 2)) (by simp [results, Try.results104, go_sem]; rfl) rfl ⟨rfl, ((Below.refl _ w).alloc (Nat.le_refl _) _)⟩
  by_cases e5 : t = 5
  · subst e5
    go_enter Try.func104, Try.ntmps104
    go_wp2
    exact bodyPost_ret (v := shapeV (shapeL 5)) (by simp [results, Try.results104, go_sem]; rfl) rfl ⟨rfl, ((Below.refl _ w).alloc (Nat.le_refl _) _)⟩
  by_cases e12 : t = 12
  · subst e12
    go_enter Try.func104, Try.ntmps104
    go_wp2
    exact bodyPost_ret (v := shapeV (shapeL 12)) (by simp [results, Try.results104, go_sem]; rfl) rfl ⟨rfl, ((Below.refl _ w).alloc (Nat.le_refl _) _)⟩
  by_cases e15 : t = 15
  · subst e15
    go_enter Try.func104, Try.ntmps104
    go_wp2
    exact bodyPost_ret (v := shapeV (shapeL 15)) (by simp [results, Try.results104, go_sem]; rfl) rfl ⟨rfl, ((Below.refl _ w).alloc (Nat.le_refl _) _)⟩
  by_cases e6 : t = 6
  · subst e6
    go_enter Try.func104, Try.ntmps104
    go_wp2
    exact bodyPost_ret (v := shapeV (shapeL 6)) (by simp [results, Try.results104, go_sem]; rfl) rfl ⟨rfl, ((Below.refl _ w).alloc (Nat.le_refl _) _)⟩
  have b2 := nb 2 e2
  have b5 := nb 5 e5
  have b12 := nb 12 e12
  have b15 := nb 15 e15
  have b6 := nb 6 e6
  have hsh : shapeL t = (0, 0, 0) := by unfold shapeL; rw [if_neg (by omega), if_neg e15, if_neg e6]
  have Hsh := Lib.hid hsh
  clear hsh e2 e5 e12 e15 e6 nb
  go_enter Try.func104, Try.ntmps104
  go_wp2
  exact bodyPost_ret (v := shapeV (0, 0, 0)) (by simp [results, Try.results104, go_sem]; rfl) rfl ⟨by rw [Hsh.out], ((Below.refl _ w).alloc (Nat.le_refl _) _)⟩

theorem own_drew {w : World} {base : Nat} {e : TypeId} {size n : Nat} {v : Value} {xs : List Value} (h : w.ownsRow base e size v n xs) : w.drew.ownsRow base e size v n xs := h
/-- How the closure of cut ends. -/
def CutC (rest : List UInt8) (ns : List (List UInt8)) (rb xb B : Nat) (w : World) (e : Ending) (w' : World) : Prop :=
  match firstN rest with
  | none => e = .returned (.bool false) ∧ Below w.heap.size w w'
  | some (x, r) => e = .returned (.bool true) ∧ w'.cell? ⟨rb, 0, none⟩ = some (.string (bs r)) ∧ (∃ v, w'.cell? ⟨xb, 2, none⟩ = some v ∧ Strs w' B v (ns ++ [x])) ∧
      (∀ a u, w.cell? a = some u → a.block < B → a ≠ ⟨rb, 0, none⟩ → a ≠ ⟨xb, 2, none⟩ → w'.cell? a = some u) ∧ (∀ a, a.block < B → a.block < w.heap.size → w'.frozen? a = w.frozen? a) ∧ (∀ C, C ≤ rb → C ≤ xb → C ≤ B → Below C w w')

theorem cutC_some {rest x r : List UInt8} {ns : List (List UInt8)} {rb xb B : Nat} {w w1 w2 : World} {v v' u : Value} {s : ByteArray} {o : Obj} (e1 : firstN rest = some (x, r))
    (hr : w.cell? ⟨rb, 0, none⟩ = some u) {vx : Value} (hx : w.cell? ⟨xb, 2, none⟩ = some vx) (h1 : Below w.heap.size w w1) (hs : Strs w B v ns) (hrx : rb ≠ xb) (hrB : rb < B) (hxB : xb < B)
    (hg : (w1.alloc o).drew.grownBy w2 v.ownBlock) (hown : Strs w2 B v' (ns ++ [x])) (hS : s = bs r) :
    CutC rest ns rb xb B w (.returned (.bool true)) ((w2.setCell ⟨xb, 2, none⟩ v').setCell ⟨rb, 0, none⟩ (.string s)) := by
  have hv : ∀ k, v.ownBlock = some k → B ≤ k := fun k hk => (own_cells hs k hk).1
  have hz := h1.size
  -- a block below B that was there is kept in w2
  have keep : ∀ k, k < B → k < w.heap.size → w2.heap[k]? = w.heap[k]? := fun k hk hk2 =>
    (hg.block k (by simp; omega) (fun e => by have := hv k e.symm; omega)).trans ((Below.heap_alloc w1 o k (by omega)).trans (h1.block k hk2))
  have hrw : rb < w.heap.size := blk_of_cell hr
  have hxw : xb < w.heap.size := blk_of_cell hx
  have hr2 : w2.cell? ⟨rb, 0, none⟩ = some u := (World.cell?_of_block (keep rb hrB hrw)).trans hr
  have hx2 : w2.cell? ⟨xb, 2, none⟩ = some vx := (World.cell?_of_block (keep xb hxB hxw)).trans hx
  unfold CutC; rw [e1]
  refine ⟨rfl, ?_, ⟨v', ?_, ?_⟩, ?_, ?_, ?_⟩
  · rw [hS]; exact cell_set_same ((cell_set_ne hrx).trans hr2)
  · exact (cell_set_ne (fun h => hrx h.symm)).trans (cell_set_same hx2)
  · exact (hown.set hxB _).set hrB _
  · intro a u' ha hb n1 n2
    rw [World.cell?_setCell_other _ _ _ _ (fun h => n1 h.symm), World.cell?_setCell_other _ _ _ _ (fun h => n2 h.symm), World.cell?_of_block (keep a.block hb (blk_of_cell ha)), ha]
  · intro a hb hw
    rw [World.frozen?_setCell, World.frozen?_setCell, World.frozen?_of_block (keep a.block hb hw)]
  · intro C c1 c2 c3
    have hm := hg.size
    have b1 : Below C w w1 := by
      by_cases hC : C ≤ w.heap.size
      · exact h1.mono hC
      · omega
    have b2 : Below C w (w1.alloc o).drew := ⟨b1.os, b1.tape, b1.output, by simp; omega, fun k hk => (Below.heap_alloc w1 o k (by omega)).trans (b1.block k hk)⟩
    exact ((b2.grown hg (by simp; omega) (fun k hk => by have := hv k hk; omega)).setCell c2 _).setCell c1 _

set_option maxRecDepth 100000 in
set_option maxHeartbeats 1000000 in
theorem cutc_any (rest : List UInt8) (ns : List (List UInt8)) (v : Value) (rb xb B : Nat) (w : World) (hlen : rest.length ≤ 1048576) (hns : ns.length ≤ 4)
    (hr : w.cell? ⟨rb, 0, none⟩ = some (.string (bs rest))) (fr : w.frozen? ⟨rb, 0, none⟩ = false) (hx : w.cell? ⟨xb, 2, none⟩ = some v) (fx : w.frozen? ⟨xb, 2, none⟩ = false) (hs : Strs w B v ns)
    (hrx : rb ≠ xb) (hrB : rb < B) (hxB : xb < B) (hB : B ≤ w.heap.size) :
    Calls Try.prog 118 #[.pointer (some ⟨rb, 0, none⟩), .pointer (some ⟨xb, 0, none⟩)] w (CutC rest ns rb xb B w) := by
  obtain ⟨i0, hi, hz0, hz1, hz2⟩ := info_parts info_string
  generalize hS : bs rest = s at *
  have hsz : s.size = rest.length := by rw [← hS, bs_size]
  have hlst : lst s = rest := by rw [← hS, lst_bs]
  have HS := Lib.hid hS
  have Hlst := Lib.hid hlst
  have Hsz := Lib.hid hsz
  have hs20 : s.size ≤ 1048576 := by omega
  have Hs := Lib.hid hs
  clear hS hlst hsz hlen hs
  go_enter Try.func118, Try.ntmps118
  go_wp2
  go_loop [3] (fun at_ => ∃ k : Nat, at_ = .int .i64 k ∧ k ≤ s.size + 300 ∧ skip rest = k + skip (rest.drop k)) (fun at_ => s.size + 300 - (intOf at_).toNat)
  case atStart => exact ⟨0, rfl, by omega, by simp⟩
  case round =>
    obtain ⟨k, rfl, hk, hsk⟩ := hrel
    have Hsk := Lib.hid hsk
    clear hsk
    by_cases hlt : k < s.size
    · obtain ⟨c, hcv⟩ : ∃ c, s[k].toNat = c := ⟨_, rfl⟩
      have hc255 : c ≤ 255 := by have := s[k].toNat_lt; omega
      have Hget := Lib.hid (lst_get s k hlt)
      rw [Hlst.out] at Hget
      by_cases hc0 : c = 0
      · have h0 : ((c : Int) != 0) = false := by simp [hc0]
        have Hk : Hid (skip rest = k) := Lib.hid (by rw [Hsk.out, skip_zero (by rw [Hget.out]; congr 1; exact UInt8.toNat_inj.1 (by rw [hcv, hc0]; rfl))]; rfl)
        clear hc0
        by_cases hck : chk (rest.take (k + 1)) = 0
        · have hb : ((chk (rest.take (k + 1)) : Int) != 0) = false := by rw [hck]; rfl
          have Hck := Lib.hid hck
          clear hck
          have e1 : Hid (firstN rest = some (rest.take (k + 1), rest.drop (k + 1))) := by
            show firstN rest = _
            unfold firstN; rw [Hk.out, if_pos ⟨by rw [← Hlst.out, lst_length]; exact hlt, Hck.out⟩]
          go_wp2_with fail
          refine (check_any (s.extract 0 (k + 1)) _ (by rw [ByteArray.size_extract]; omega)).mono ?_
          rw [show lst (s.extract 0 (k + 1)) = rest.take (k + 1) by rw [extract_bs, lst_bs, Hlst.out]; simp]
          rintro e w1 ⟨rfl, h1⟩
          have hy1 := h1.size
          have hr1 := (h1.cell (blk_of_cell hr)).trans hr
          have hx1 := (h1.cell (blk_of_cell hx)).trans hx
          have fr1 := (h1.frozen (blk_of_cell hr)).trans fr
          have fx1 := (h1.frozen (blk_of_cell hx)).trans fx
          have Hs1 := Lib.hid (Hs.out.below h1)
          go_wp2
          have mw : IntKind.i64.wrap ((k : Int) + 1) = (k : Int) + 1 := IntWalk.i64_in _ (by omega)
          have mw0 : 0 ≤ (k : Int) + 1 := by omega
          have mw1 : (k : Int) + 1 ≤ s.size := by omega
          have mw2 : ((k : Int) + 1).toNat = k + 1 := by omega
          have q3 : ns.length + 1 ≤ maxLen := by unfold maxLen; omega
          have q4 : (ns.length + 1) * 16 ≤ 140737488355328 := by omega
          have q5 : Hid (B ≤ (w1.alloc (.cells #[.string (s.extract 0 (k + 1))] 9)).drew.heap.size) := Lib.hid (by simp; omega)
          have own1 := Lib.hid (own_drew (Hs1.out.alloc (.cells #[.string (s.extract 0 (k + 1))] 9)))
          have new1 : Hid (∀ j u, [Value.string (s.extract 0 (k + 1))][j]? = some u → (w1.alloc (.cells #[.string (s.extract 0 (k + 1))] 9)).drew.cell? ((⟨w1.heap.size, 0, none⟩ : Addr).add j) = some u) := Lib.hid (cell_one_new w1 (.string (s.extract 0 (k + 1))) 9)
          have one1 : Hid (∀ u ∈ [Value.string (s.extract 0 (k+1))], u.oneCell' = true) := Lib.hid (fun u hu => by simp only [List.mem_singleton] at hu; subst hu; rfl)
          have nex : v.ownBlock ≠ some xb := by rcases own_ne own1.out xb hxB with h | h; (rw [h]; simp); exact h
          have ner : v.ownBlock ≠ some rb := by rcases own_ne own1.out rb hrB with h | h; (rw [h]; simp); exact h
          have ax := alloc_cell hx1 (.cells #[.string (s.extract 0 (k + 1))] 9)
          have ar := alloc_cell hr1 (.cells #[.string (s.extract 0 (k + 1))] 9)
          rw [fx1] at ax
          rw [fr1] at ar
          have ax' : Hid _ := Lib.hid ax
          have ar' : Hid _ := Lib.hid ar
          clear ax ar
          have ax1 := ax'.out.1
          have ar1 := ar'.out.1
          go_region_law (refine step_append_lies _ rfl _ _ 47 rfl B 9 i0 (.string ⟨#[]⟩) 1 16 Try.underlying47 hi hz0 hz1 hz2 rfl (Nat.lt_succ_self 0) _ _ _ rfl own1.out ⟨w1.heap.size, 0, none⟩ 1 1 [.string (s.extract 0 (k+1))] rfl rfl new1.out one1.out (Nat.lt_succ_self 0) q3 q4 q5.out _ rfl ?_; intro g cap w2 hown2 hgrow2 hlies hlt2; have hx2 := (grown_cell hgrow2 ax'.out.1 nex).1; have fx2 := (grown_cell hgrow2 ax'.out.1 nex).2.trans ax'.out.2; have hr2 := (grown_cell hgrow2 ar'.out.1 ner).1; have fr2 := (grown_cell hgrow2 ar'.out.1 ner).2.trans ar'.out.2; have Hown2 := Lib.hid hown2; have Hgrow2 := Lib.hid hgrow2; clear hown2 hgrow2)
          all_goals go_wp2
          all_goals go_ret
          all_goals exact cutC_some e1.out hr hx h1 Hs.out hrx hrB hxB Hgrow2.out (by have := Hown2.out; rw [extract_bs, Hlst.out] at this; unfold Strs; simpa using this) (by rw [extract_bs, Hlst.out]; congr 1; rw [List.take_of_length_le]; rw [List.length_drop, ← Hlst.out, lst_length]; exact Nat.le_refl _)
        · have hb : ((chk (rest.take (k + 1)) : Int) != 0) = true := by rw [bne_iff_ne]; exact hck
          have Hck := Lib.hid hck
          clear hck
          have e1 : Hid (firstN rest = none) := by
            show firstN rest = _
            unfold firstN; rw [Hk.out, if_neg (fun h => Hck.out h.2)]
          go_wp2_with fail
          refine (check_any (s.extract 0 (k + 1)) _ (by rw [ByteArray.size_extract]; omega)).mono ?_
          rw [show lst (s.extract 0 (k + 1)) = rest.take (k + 1) by rw [extract_bs, lst_bs, Hlst.out]; simp]
          rintro e w1 ⟨rfl, h1⟩
          go_wp2
          go_ret
          unfold CutC; rw [e1.out]
          exact ⟨rfl, h1⟩
      · have h0 : ((c : Int) != 0) = true := by simp [hc0]
        have Hk : Hid (skip rest = k + 1 + c + skip (rest.drop (k + 1 + c))) := Lib.hid (by rw [Hsk.out, skip_step Hget.out (fun h => hc0 (by rw [← hcv, h]; rfl)), hcv]; omega)
        clear hc0
        go_wp2
        go_round
        case rel => exact ⟨k + 1 + c, by go_num, by omega, Hk.out⟩
        case measure => simp [intOf]; omega
    · have Hk : Hid (skip rest = k) := Lib.hid (by rw [Hsk.out, skip_end (by rw [← Hlst.out, lst_length]; omega)]; rfl)
      go_wp2
      go_ret
      unfold CutC firstN
      rw [if_neg (by rw [Hk.out, ← Hlst.out, lst_length]; omega)]
      exact ⟨rfl, Below.refl _ _⟩
end Go.Proofs.Ytihfapnipifiiaa
/- The walks of package record: cut. -/
namespace Go.Proofs.Ytihfapnipifiiaa
open Go Go.RowKit Go.Shelf

theorem beq_cast (a b : Nat) : ((a : Int) == (b : Int)) = decide (a = b) := by
  rw [Bool.eq_iff_iff]; simp; omega
def CutPost (h : Nat × Nat × Nat) (d : List UInt8) (w : World) (e : Ending) (w' : World) : Prop :=
  ∃ (a b : ByteArray) (v : Value) (ns : List (List UInt8)), e = .returned (.tuple #[.agg #[.string a, .string b, v], .bool (cutOk h d)]) ∧ Below w.heap.size w w' ∧ Strs w' w.heap.size v ns ∧
    (∀ ns' r, cutL h d = some (ns', r) → ns = ns' ∧ a = bs (d.take h.1) ∧ b = bs r)

/-- The cells of cut's own variables. -/
structure CutCells (z : Nat) (h : Nat × Nat × Nat) (ah rest : ByteArray) (v : Value) (W : World) : Prop where
  s0 : W.cell? ⟨z, 0, none⟩ = some (.int .i64 h.1)
  s1 : W.cell? ⟨z, 1, none⟩ = some (.int .i64 h.2.1)
  s2 : W.cell? ⟨z, 2, none⟩ = some (.int .i64 h.2.2)
  r0 : W.cell? ⟨z + 1, 0, none⟩ = some (.string ⟨#[]⟩)
  r1 : W.cell? ⟨z + 1, 1, none⟩ = some (.string ⟨#[]⟩)
  r2 : W.cell? ⟨z + 1, 2, none⟩ = some (.slice none 0 0)
  x0 : W.cell? ⟨z + 1 + 1, 0, none⟩ = some (.string ah)
  x1 : W.cell? ⟨z + 1 + 1, 1, none⟩ = some (.string ⟨#[]⟩)
  x2 : W.cell? ⟨z + 1 + 1, 2, none⟩ = some v
  q : W.cell? ⟨z + 1 + 1 + 1, 0, none⟩ = some (.string rest)
  fr : ∀ b o, z ≤ b → b < z + 4 → W.frozen? ⟨b, o, none⟩ = false
theorem CutCells.step {z : Nat} {h : Nat × Nat × Nat} {ah rest rest' : ByteArray} {v v' : Value} {W W' : World} (c : CutCells z h ah rest v W)
    (hq : W'.cell? ⟨z + 1 + 1 + 1, 0, none⟩ = some (.string rest')) (hx : W'.cell? ⟨z + 1 + 1, 2, none⟩ = some v')
    (hk : ∀ a u, W.cell? a = some u → a.block < z + 4 → a ≠ ⟨z + 1 + 1 + 1, 0, none⟩ → a ≠ ⟨z + 1 + 1, 2, none⟩ → W'.cell? a = some u)
    (hf : ∀ a : Addr, a.block < z + 4 → a.block < W.heap.size → W'.frozen? a = W.frozen? a) : CutCells z h ah rest' v' W' := by
  have hlt := blk_of_cell c.q
  dsimp only at hlt
  refine ⟨hk _ _ c.s0 ?_ ?_ ?_, hk _ _ c.s1 ?_ ?_ ?_, hk _ _ c.s2 ?_ ?_ ?_, hk _ _ c.r0 ?_ ?_ ?_, hk _ _ c.r1 ?_ ?_ ?_, hk _ _ c.r2 ?_ ?_ ?_, hk _ _ c.x0 ?_ ?_ ?_, hk _ _ c.x1 ?_ ?_ ?_, hx, hq, fun b o h1 h2 => (hf _ h2 (by dsimp only; omega)).trans (c.fr b o h1 h2)⟩ <;>
    first | (dsimp only; omega) | (intro e; have e1 := congrArg Addr.block e; have e2 := congrArg Addr.off e; dsimp only at e1 e2; omega)
theorem CutCells.below {z : Nat} {h : Nat × Nat × Nat} {ah rest : ByteArray} {v : Value} {W W' : World} (c : CutCells z h ah rest v W) (hb : Below W.heap.size W W') : CutCells z h ah rest v W' := by
  have hlt := blk_of_cell c.q
  dsimp only at hlt
  have k := fun (a : Addr) (u : Value) (ha : W.cell? a = some u) => (hb.cell (blk_of_cell ha)).trans ha
  exact ⟨k _ _ c.s0, k _ _ c.s1, k _ _ c.s2, k _ _ c.r0, k _ _ c.r1, k _ _ c.r2, k _ _ c.x0, k _ _ c.x1, k _ _ c.x2, k _ _ c.q, fun b o h1 h2 => (hb.frozen (by dsimp only; omega)).trans (c.fr b o h1 h2)⟩

theorem takeN_len : ∀ (n : Nat) (l : List UInt8) (ns : List (List UInt8)) (r : List UInt8), takeN n l = some (ns, r) → ns.length = n ∧ r.length ≤ l.length := by
  intro n
  induction n with
  | zero => intro l ns r h; cases h; simp
  | succ n ih =>
    intro l ns r h
    unfold takeN at h
    cases h1 : takeN n l with
    | none => rw [h1] at h; cases h
    | some p =>
      obtain ⟨ms, q⟩ := p
      rw [h1] at h
      dsimp only at h
      obtain ⟨i1, i2⟩ := ih l ms q h1
      cases h2 : firstN q with
      | none => rw [h2] at h; cases h
      | some p2 =>
        obtain ⟨x, q2⟩ := p2
        rw [h2] at h; cases h
        refine ⟨by simp [i1], ?_⟩
        unfold firstN at h2
        split at h2
        · cases h2; simp; omega
        · cases h2

theorem takeN_none {k : Nat} {l : List UInt8} {ns : List (List UInt8)} {r : List UInt8} (h : takeN k l = some (ns, r)) (hf : firstN r = none) : ∀ n, k < n → takeN n l = none := by
  intro n
  induction n with
  | zero => intro h; omega
  | succ n ih =>
    intro hk
    unfold takeN
    by_cases e : k = n
    · subst e; rw [h]; dsimp only; rw [hf]
    · rw [ih (by omega)]

set_option maxRecDepth 100000 in
set_option maxHeartbeats 2000000 in
theorem cut_any (h : Nat × Nat × Nat) (d : ByteArray) (w : World) (hs : d.size ≤ 1048576) (hh : h.1 ≤ 2 ∧ h.2.1 ≤ 2 ∧ h.2.2 ≤ 20) :
    Calls Try.prog 105 #[shapeV h, .string d] w (CutPost h (lst d) w) := by
  obtain ⟨ah, nn, bh⟩ := h
  obtain ⟨g1, g2, g3⟩ := hh
  dsimp only at g1 g2 g3
  have Hlen := Lib.hid (lst_length d)
  unfold shapeV
  dsimp only
  by_cases hlt : d.size < ah
  · go_enter Try.func105, Try.ntmps105
    go_wp2
    refine bodyPost_ret (v := .tuple #[.agg #[.string ⟨#[]⟩, .string ⟨#[]⟩, .slice none 0 0], .bool false]) (by simp [results, Try.results105, go_sem]) rfl ?_
    have e : cutL (ah, nn, bh) (lst d) = none := by unfold cutL; rw [if_pos (by rw [Hlen.out]; exact hlt)]
    refine ⟨_, _, _, [], by unfold cutOk; rw [e], ((Below.refl _ w).alloc (Nat.le_refl _) _).alloc (by simp) _, Strs.nil _ _, fun ns' r hc => ?_⟩
    rw [e] at hc; cases hc
  · have hge : ah ≤ d.size := by omega
    go_enter Try.func105, Try.ntmps105
    go_wp2
    generalize hW : (((w.alloc (.cells #[.int .i64 ah, .int .i64 nn, .int .i64 bh] 158)).alloc (.cells #[.string ⟨#[]⟩, .string ⟨#[]⟩, .slice none 0 0] 161)).alloc (.cells #[.string (d.extract 0 ah), .string ⟨#[]⟩, .slice none 0 0] 161)).alloc (.cells #[.string (d.extract ah d.size)] 9) = W0
    have hext : d.extract ah d.size = bs ((lst d).drop ah) := by
      rw [extract_bs, List.take_of_length_le]; rw [List.length_drop, lst_length]; exact Nat.le_refl _
    have C0 : CutCells w.heap.size (ah, nn, bh) (d.extract 0 ah) (bs ((lst d).drop ah)) (.slice none 0 0) W0 := by
      rw [← hext]; subst hW
      refine ⟨by go_simp, by go_simp, by go_simp, by go_simp, by go_simp, by go_simp, by go_simp, by go_simp, by go_simp, by go_simp, ?_⟩
      intro b o h1 h2
      rcases (show b = w.heap.size ∨ b = w.heap.size + 1 ∨ b = w.heap.size + 1 + 1 ∨ b = w.heap.size + 1 + 1 + 1 by omega) with rfl | rfl | rfl | rfl <;> go_simp
    have B0 : Below w.heap.size w W0 := by subst hW; exact ((((Below.refl _ w).alloc (Nat.le_refl _) _).alloc (by simp) _).alloc (by simp; omega) _).alloc (by simp; omega) _
    have Z0 : w.heap.size + 4 ≤ W0.heap.size := by subst hW; simp
    have Hext := Lib.hid hext
    clear hW hext
    go_loopw [27] (fun k_ wr => ∃ (k : Nat) (ns : List (List UInt8)) (rest : List UInt8) (v : Value), k_ = .int .i64 k ∧ k ≤ nn ∧ takeN k ((lst d).drop ah) = some (ns, rest) ∧
        CutCells w.heap.size (ah, nn, bh) (d.extract 0 ah) (bs rest) v wr ∧ Strs wr (w.heap.size + 4) v ns ∧ Below w.heap.size w wr ∧ w.heap.size + 4 ≤ wr.heap.size) (fun k_ _ => nn - (intOf k_).toNat)
    case atStart => exact ⟨0, [], _, _, rfl, Nat.zero_le _, rfl, C0, Strs.nil _ _, B0, Z0⟩
    case round =>
      obtain ⟨k, ns, rest, v, rfl, hk, ht, hC, hst, hB, hZ⟩ := hrel
      have Ht := Lib.hid ht
      have tl := takeN_len _ _ _ _ ht
      have hns : ns.length ≤ 4 := by omega
      have hrl : rest.length ≤ 1048576 := by have h2 := tl.2; rw [List.length_drop, lst_length] at h2; omega
      clear ht C0 tl
      have HC := Lib.hid hC
      have Hst := Lib.hid hst
      clear hC hst
      by_cases hkn : k < nn
      · have hd : decide ((k : Int) < nn) = true := by simp; omega
        cases hf : firstN rest with
        | none =>
          have Hf := Lib.hid hf
          clear hf
          go_wp2_with fail
          refine (cutc_any rest ns v (w.heap.size + 1 + 1 + 1) (w.heap.size + 1 + 1) (w.heap.size + 4) _ hrl hns HC.out.q (HC.out.fr _ _ (by omega) (by omega)) HC.out.x2 (HC.out.fr _ _ (by omega) (by omega)) Hst.out (by omega) (by omega) (by omega) hZ).mono ?_
          unfold CutC; rw [Hf.out]
          rintro e w1 ⟨rfl, h1⟩
          have HC1 := HC.out.below h1
          have c0 := HC1.r0
          have c1 := HC1.r1
          have c2 := HC1.r2
          have f0 := HC1.fr (w.heap.size + 1) 0 (by omega) (by omega)
          have f1 := HC1.fr (w.heap.size + 1) 1 (by omega) (by omega)
          have f2 := HC1.fr (w.heap.size + 1) 2 (by omega) (by omega)
          clear HC1
          have e1 : cutL (ah, nn, bh) (lst d) = none := by
            unfold cutL; rw [if_neg (by rw [Hlen.out]; omega)]
            exact takeN_none Ht.out Hf.out _ hkn
          have E1 := Lib.hid e1
          clear e1
          have hz1 := h1.size
          go_wp2
          refine bodyPost_ret (v := .tuple #[.agg #[.string ⟨#[]⟩, .string ⟨#[]⟩, .slice none 0 0], .bool false]) (by simp [results, Try.results105, go_sem, c0, c1, c2]) rfl ?_
          have hb3 : Below w.heap.size w w1 := hB.trans (h1.mono (by omega))
          refine ⟨_, _, _, [], by unfold cutOk; rw [E1.out], ((hb3.setCell (by simp) _).setCell (by simp) _).setCell (by simp) _, Strs.nil _ _, fun ns' r hc => ?_⟩
          rw [E1.out] at hc; cases hc
        | some p =>
          obtain ⟨x, rest'⟩ := p
          have Hf := Lib.hid hf
          clear hf
          go_wp2_with fail
          refine (cutc_any rest ns v (w.heap.size + 1 + 1 + 1) (w.heap.size + 1 + 1) (w.heap.size + 4) _ hrl hns HC.out.q (HC.out.fr _ _ (by omega) (by omega)) HC.out.x2 (HC.out.fr _ _ (by omega) (by omega)) Hst.out (by omega) (by omega) (by omega) hZ).mono ?_
          unfold CutC; rw [Hf.out]
          rintro e w1 ⟨rfl, hq, ⟨v', hx, hst'⟩, hkeep, hfz, hbel⟩
          have HC1 := HC.out.step hq hx hkeep hfz
          have HB1 := hB.trans (hbel w.heap.size (by omega) (by omega) (by omega))
          have hz1 := (hbel 0 (by omega) (by omega) (by omega)).size
          have HC1' := Lib.hid HC1
          clear HC1 hq hx hkeep hfz hbel
          go_wp2
          go_roundw
          case rel => exact ⟨k + 1, ns ++ [x], rest', v', by go_num, by omega, by unfold takeN; rw [Ht.out]; dsimp only; rw [Hf.out], HC1'.out, hst', HB1, by omega⟩
          case measure => simp [intOf]; omega
      · have hkn' : k = nn := by omega
        have e1 : cutL (ah, nn, bh) (lst d) = some (ns, rest) := by
          unfold cutL; rw [if_neg (by rw [Hlen.out]; omega), ← hkn']; exact Ht.out
        have E1 := Lib.hid e1
        clear e1 hkn'
        have E2 : Hid (cutOk (ah, nn, bh) (lst d) = ((rest.length : Int) == (bh : Int))) := by
          show cutOk (ah, nn, bh) (lst d) = _
          unfold cutOk; rw [E1.out]; exact (beq_cast _ _).symm
        have c0 := HC.out.r0
        have c1 := HC.out.r1
        have c2 := HC.out.r2
        have d0 := HC.out.x0
        have d1 := HC.out.x1
        have d2 := HC.out.x2
        have q0 := HC.out.q
        have q2 := HC.out.s2
        dsimp only at q2
        have f0 := HC.out.fr (w.heap.size + 1) 0 (by omega) (by omega)
        have f1 := HC.out.fr (w.heap.size + 1) 1 (by omega) (by omega)
        have f2 := HC.out.fr (w.heap.size + 1) 2 (by omega) (by omega)
        have f3 := HC.out.fr (w.heap.size + 1 + 1) 1 (by omega) (by omega)
        have hsz : (bs rest).size = rest.length := bs_size rest
        obtain ⟨A, cap, rfl⟩ := Hst.out.shape
        go_wp2
        go_region
        all_goals go_wp2
        all_goals (refine bodyPost_ret (v := .tuple #[.agg #[.string (d.extract 0 ah), .string (bs rest), .slice A ns.length cap], .bool ((rest.length : Int) == (bh : Int))]) (by simp [results, Try.results105, go_sem, c0, c1, c2]) rfl ?_)
        all_goals (refine ⟨d.extract 0 ah, bs rest, .slice A ns.length cap, ns, ?_, ((((hB.setCell ?_ _).setCell ?_ _).setCell ?_ _).setCell ?_ _).drew, ?_, ?_⟩)
        all_goals first
          | (simp; done)
          | (rw [E2.out])
          | (dsimp only; omega)
          | (intro ns' r hc; rw [E1.out] at hc; cases hc; exact ⟨rfl, by rw [extract_bs]; simp, rfl⟩)
          | (exact (((((Hst.out.set (by simp) _).set (by simp) _).set (by simp) _).set (by simp) _).mono (by omega)))
          | skip
end Go.Proofs.Ytihfapnipifiiaa
/- The walks of package record: right, Check, Life. -/
namespace Go.Proofs.Ytihfapnipifiiaa
open Go Go.RowKit Go.Shelf

theorem shapeL_cases (t : Int) : shapeL t = (0, 1, 0) ∨ shapeL t = (2, 1, 0) ∨ shapeL t = (0, 2, 20) ∨ shapeL t = (0, 0, 0) := by
  unfold shapeL
  by_cases h : t = 2 ∨ t = 5 ∨ t = 12
  · rw [if_pos h]; exact .inl rfl
  · rw [if_neg h]
    by_cases h2 : t = 15
    · rw [if_pos h2]; exact .inr (.inl rfl)
    · rw [if_neg h2]
      by_cases h3 : t = 6
      · rw [if_pos h3]; exact .inr (.inr (.inl rfl))
      · rw [if_neg h3]; exact .inr (.inr (.inr rfl))
theorem shapeL_le (t : Int) : (shapeL t).1 ≤ 2 ∧ (shapeL t).2.1 ≤ 2 ∧ (shapeL t).2.2 ≤ 20 := by
  rcases shapeL_cases t with h | h | h | h <;> rw [h] <;> simp

set_option maxRecDepth 100000 in
set_option maxHeartbeats 1000000 in
theorem right_any (t : Int) (d : ByteArray) (w : World) (h0 : 0 ≤ t) (h1 : t ≤ 65535) (hs : d.size ≤ 1048576) :
    Calls Try.prog 91 #[.int .u16 t, .string d] w fun e w' => e = .returned (.bool (rightL t (lst d))) ∧ Below w.heap.size w w' := by
  have Hlen := Lib.hid (lst_length d)
  have nb : ∀ c : Int, t ≠ c → (t == c) = false := fun c h => beq_eq_false_iff_ne.2 h
  by_cases e1 : t = 1
  · subst e1
    have hr : rightL 1 (lst d) = ((d.size : Int) == (4 : Nat)) := by unfold rightL; rw [if_pos rfl, Hlen.out, beq_cast]
    have Hr := Lib.hid hr
    clear hr nb
    go_enter Try.func91, Try.ntmps91
    go_wp2
    go_ret
    exact ⟨by rw [Hr.out]; rfl, Below.refl _ _⟩
  by_cases e28 : t = 28
  · subst e28
    have hr : rightL 28 (lst d) = ((d.size : Int) == (16 : Nat)) := by unfold rightL; rw [if_neg (by decide), if_pos rfl, Hlen.out, beq_cast]
    have Hr := Lib.hid hr
    clear hr nb
    go_enter Try.func91, Try.ntmps91
    go_wp2
    go_ret
    exact ⟨by rw [Hr.out]; rfl, Below.refl _ _⟩
  by_cases e16 : t = 16
  · subst e16
    have hr : rightL 16 (lst d) = (decide (pieces (lst d) = d.size) && decide (0 < d.size)) := by unfold rightL; rw [if_neg (by decide), if_neg (by decide), if_pos rfl, Hlen.out]
    have Hr := Lib.hid hr
    clear hr nb
    go_enter Try.func91, Try.ntmps91
    go_wp2
    go_loop [5] (fun at_ => ∃ k : Nat, at_ = .int .i64 k ∧ k ≤ d.size + 300 ∧ pieces (lst d) = k + pieces ((lst d).drop k)) (fun at_ => d.size + 300 - (intOf at_).toNat)
    case atStart => exact ⟨0, rfl, by omega, by simp⟩
    case round =>
      obtain ⟨k, rfl, hk, hp⟩ := hrel
      have Hp := Lib.hid hp
      clear hp
      by_cases hlt : k < d.size
      · obtain ⟨c, hcv⟩ : ∃ c, d[k].toNat = c := ⟨_, rfl⟩
        have hc255 : c ≤ 255 := by have := d[k].toNat_lt; omega
        have Hk : Hid (pieces (lst d) = k + 1 + c + pieces ((lst d).drop (k + 1 + c))) := by
          show pieces (lst d) = _
          rw [Hp.out, pieces_step (lst_get d k hlt), hcv]; omega
        go_wp2
        go_round
        case rel => exact ⟨k + 1 + c, by go_num, by omega, Hk.out⟩
        case measure => simp [intOf]; omega
      · have Hk : Hid (pieces (lst d) = k) := by
          show pieces (lst d) = _
          rw [Hp.out, pieces_end (by rw [Hlen.out]; omega)]; rfl
        by_cases hkd : k = d.size
        · have b1 : ((k : Int) == (d.size : Int)) = true := by rw [beq_iff_eq]; omega
          have Hkd := Lib.hid hkd
          clear hkd
          by_cases hz : 0 < d.size
          · have b2 : (!d.toList.isEmpty) = true := by rw [toList_lst]; cases hl : lst d with
              | nil => have := congrArg List.length hl; rw [Hlen.out, List.length_nil] at this; omega
              | cons _ _ => rfl
            have b3 : d.toList.isEmpty = false := by simpa using b2
            go_wp2
            go_ret
            exact ⟨by rw [Hr.out, Hk.out, decide_eq_true Hkd.out, decide_eq_true hz]; rfl, Below.refl _ _⟩
          · have b3 : d.toList.isEmpty = true := by rw [toList_lst]; cases hl : lst d with
              | nil => rfl
              | cons _ _ => have := congrArg List.length hl; rw [Hlen.out, List.length_cons] at this; omega
            go_wp2
            go_ret
            exact ⟨by rw [Hr.out, Hk.out, decide_eq_true Hkd.out, decide_eq_false hz]; rfl, Below.refl _ _⟩
        · have b1 : ((k : Int) == (d.size : Int)) = false := by rw [beq_eq_false_iff_ne]; omega
          have Hkd := Lib.hid hkd
          clear hkd
          go_wp2
          go_ret
          exact ⟨by rw [Hr.out, Hk.out, decide_eq_false Hkd.out]; rfl, Below.refl _ _⟩
  have b1 := nb 1 e1
  have b28 := nb 28 e28
  have b16 := nb 16 e16
  have hr : rightL t (lst d) = (cutOk (shapeL t) (lst d) || decide (shapeL t = (0, 0, 0))) := by unfold rightL; rw [if_neg e1, if_neg e28, if_neg e16]
  have Hr := Lib.hid hr
  have hle := shapeL_le t
  clear hr nb e1 e28 e16
  go_enter Try.func91, Try.ntmps91
  go_wp2_with fail
  refine (shapeOf_any t _ h0 h1).mono ?_
  rintro e w1 ⟨rfl, h1'⟩
  have hz1 := h1'.size
  go_wp2_with fail
  refine (cut_any (shapeL t) d _ hs hle).mono ?_
  rintro e w2 ⟨a, b, v, ns, rfl, h2, hst, _⟩
  have hz2 := h2.size
  have hb2 : Below w.heap.size w w2 := h1'.trans (h2.mono hz1)
  obtain ⟨A, cap, rfl⟩ := hst.shape
  clear h1' h2 hst
  cases hc : cutOk (shapeL t) (lst d) with
  | true =>
    have Hc := Lib.hid hc
    clear hc
    go_wp2
    go_ret
    exact ⟨by rw [Hr.out, Hc.out]; rfl, hb2.alloc (by omega) _⟩
  | false =>
    have Hc := Lib.hid hc
    clear hc
    go_wp2_with fail
    refine (shapeOf_any t _ h0 h1).mono ?_
    rintro e w3 ⟨rfl, h3⟩
    have hz3 := h3.size
    have hb3 : Below w.heap.size w w3 := (hb2.alloc (by omega) _).trans (h3.mono (by simp; omega))
    have Hb3 := Lib.hid hb3
    clear hb3 h3 hb2
    rcases shapeL_cases t with hS | hS | hS | hS
    all_goals (rw [hS] at Hr Hc ⊢; unfold shapeV; have HS := Lib.hid hS; clear hS; go_wp2; go_ret)
    all_goals (refine ⟨?_, Hb3.out⟩; rw [Hr.out, Hc.out]; rfl)

theorem life_any (t : Int) (w : World) (h0 : 0 ≤ t) (h1 : t ≤ 4294967295) :
    Calls Try.prog 73 #[.int .u32 t] w fun e w' => e = .returned (.int .u32 (if t < 2147483648 then t else 0)) ∧ w = w' := by
  by_cases h : t < 2147483648
  · have e : t / 2147483648 = 0 := by omega
    go_enter Try.func73, Try.ntmps73
    go_wp2
    go_ret
    exact ⟨rfl, rfl⟩
  · have e : t / 2147483648 = 1 := by omega
    go_enter Try.func73, Try.ntmps73
    go_wp2
    go_ret
    exact ⟨rfl, rfl⟩

/-- A record of Go's. -/
structure RRec where
  name : List UInt8
  t : Int
  c : Int
  ttl : Int
  data : List UInt8
def RRec.cells (r : RRec) : List Value := [.string (bs r.name), .int .u16 r.t, .int .u16 r.c, .int .u32 r.ttl, .string (bs r.data)]
def RRec.val (r : RRec) : Value := .agg #[.string (bs r.name), .int .u16 r.t, .int .u16 r.c, .int .u32 r.ttl, .string (bs r.data)]
structure RRec.ok (r : RRec) : Prop where
  t0 : 0 ≤ r.t
  t1 : r.t ≤ 65535
  c0 : 0 ≤ r.c
  c1 : r.c ≤ 65535
  l0 : 0 ≤ r.ttl
  l1 : r.ttl ≤ 4294967295

set_option maxRecDepth 100000 in
set_option maxHeartbeats 1000000 in
theorem reccheck_any (r : RRec) (w : World) (hr : r.ok) (hn : r.name.length ≤ 1048576) (hd : r.data.length ≤ 1048576) :
    Calls Try.prog 52 #[r.val] w fun e w' => e = .returned (.int .i64 (rchk r.name r.t r.data)) ∧ Below w.heap.size w w' := by
  unfold RRec.val
  have hdl : (bs r.data).size = r.data.length := bs_size _
  go_enter Try.func52, Try.ntmps52
  go_wp2_with fail
  refine (check_any (bs r.name) _ (by rw [bs_size]; omega)).mono ?_
  rw [lst_bs]
  rintro e w1 ⟨rfl, h1⟩
  have hz1 := h1.size
  have c1 : w1.cell? ⟨w.heap.size, 1, none⟩ = some (.int .u16 r.t) := (h1.cell (by simp)).trans (by go_simp)
  have c4 : w1.cell? ⟨w.heap.size, 4, none⟩ = some (.string (bs r.data)) := (h1.cell (by simp)).trans (by go_simp)
  have hB : Below w.heap.size w w1 := ((Below.refl _ w).alloc (Nat.le_refl _) _).trans (h1.mono (by simp))
  have HB := Lib.hid hB
  clear h1 hB
  by_cases hc : chk r.name = 0
  · have hb : ((chk r.name : Int) != 0) = false := by rw [hc]; rfl
    have Hc := Lib.hid hc
    clear hc
    by_cases hbig : 2000 < r.data.length
    · go_wp2
      go_ret
      exact ⟨by unfold rchk; rw [if_neg (fun h => h Hc.out), if_pos hbig]; rfl, HB.out⟩
    · go_wp2_with fail
      refine (right_any r.t (bs r.data) _ hr.t0 hr.t1 (by rw [bs_size]; exact hd)).mono ?_
      rw [lst_bs]
      rintro e w2 ⟨rfl, h2⟩
      cases hrt : rightL r.t r.data with
      | true =>
        have Hrt := Lib.hid hrt
        clear hrt
        go_wp2
        go_ret
        exact ⟨by unfold rchk; rw [if_neg (fun h => h Hc.out), if_neg hbig, if_pos Hrt.out]; rfl, HB.out.trans (h2.mono HB.out.size)⟩
      | false =>
        have Hrt := Lib.hid hrt
        clear hrt
        go_wp2
        go_ret
        exact ⟨by unfold rchk; rw [if_neg (fun h => h Hc.out), if_neg hbig, if_neg (by rw [Hrt.out]; simp)]; rfl, HB.out.trans (h2.mono HB.out.size)⟩
  · have hb : ((chk r.name : Int) != 0) = true := by rw [bne_iff_ne]; exact hc
    have Hc := Lib.hid hc
    clear hc
    go_wp2
    go_ret
    exact ⟨by unfold rchk; rw [if_pos Hc.out]; rfl, HB.out⟩
end Go.Proofs.Ytihfapnipifiiaa
