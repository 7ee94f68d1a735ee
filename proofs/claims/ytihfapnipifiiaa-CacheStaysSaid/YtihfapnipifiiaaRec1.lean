/- The walks of package record: shapeOf, cut. -/
import Derived.Test.YtihfapnipifiiaaRef3c
import Derived.Test.YtihfapnipifiiaaSpec2
import Derived.Deep.RegionLaw
import Derived.Deep.AppendLies
import Derived.StillTailTactics
namespace Go.Proofs.Ytihfapnipifiiaa
open Go Go.RowKit Go.Shelf

def shapeV (h : Nat × Nat × Nat) : Value := .agg #[.int .i64 h.1, .int .i64 h.2.1, .int .i64 h.2.2]

set_option maxRecDepth 100000 in
set_option maxHeartbeats 1000000 in
theorem shapeOf_any (t : Int) (w : World) (h0 : 0 ≤ t) (h1 : t ≤ 65535) :
    Calls Try.prog 104 #[.int .u16 t] w fun e w' => e = .returned (shapeV (shapeL t)) ∧ Below w.heap.size w w' := by
  have nb : ∀ c : Int, t ≠ c → (t == c) = false := fun c h => beq_eq_false_iff_ne.2 h
  by_cases e2 : t = 2
  · subst e2
    go_enter Try.func104, Try.ntmps104
    go_wp2
    exact bodyPost_ret (v := shapeV (shapeL 2)) (by simp [results, Try.results104, go_sem]; rfl) rfl ⟨rfl, ((Below.refl _ w).alloc (Nat.le_refl _) _)⟩
  by_cases e5 : t = 5
  · subst e5
    go_enter Try.func104, Try.ntmps104
    go_wp2
    exact bodyPost_ret (v := shapeV (shapeL 5)) (by simp [results, Try.results104, go_sem]; rfl) rfl ⟨rfl, ((Below.refl _ w).alloc (Nat.le_refl _) _)⟩
  by_cases e12 : t = 12
  · subst e12
    go_enter Try.func104, Try.ntmps104
    go_wp2
    exact bodyPost_ret (v := shapeV (shapeL 12)) (by simp [results, Try.results104, go_sem]; rfl) rfl ⟨rfl, ((Below.refl _ w).alloc (Nat.le_refl _) _)⟩
  by_cases e15 : t = 15
  · subst e15
    go_enter Try.func104, Try.ntmps104
    go_wp2
    exact bodyPost_ret (v := shapeV (shapeL 15)) (by simp [results, Try.results104, go_sem]; rfl) rfl ⟨rfl, ((Below.refl _ w).alloc (Nat.le_refl _) _)⟩
  by_cases e6 : t = 6
  · subst e6
    go_enter Try.func104, Try.ntmps104
    go_wp2
    exact bodyPost_ret (v := shapeV (shapeL 6)) (by simp [results, Try.results104, go_sem]; rfl) rfl ⟨rfl, ((Below.refl _ w).alloc (Nat.le_refl _) _)⟩
  have b2 := nb 2 e2
  have b5 := nb 5 e5
  have b12 := nb 12 e12
  have b15 := nb 15 e15
  have b6 := nb 6 e6
  have hsh : shapeL t = (0, 0, 0) := by unfold shapeL; rw [if_neg (by omega), if_neg e15, if_neg e6]
  have Hsh := Lib.hid hsh
  clear hsh e2 e5 e12 e15 e6 nb
  go_enter Try.func104, Try.ntmps104
  go_wp2
  exact bodyPost_ret (v := shapeV (0, 0, 0)) (by simp [results, Try.results104, go_sem]; rfl) rfl ⟨by rw [Hsh.out], ((Below.refl _ w).alloc (Nat.le_refl _) _)⟩

theorem own_drew {w : World} {base : Nat} {e : TypeId} {size n : Nat} {v : Value} {xs : List Value} (h : w.ownsRow base e size v n xs) : w.drew.ownsRow base e size v n xs := h
/-- How the closure of cut ends. -/
def CutC (rest : List UInt8) (ns : List (List UInt8)) (rb xb B : Nat) (w : World) (e : Ending) (w' : World) : Prop :=
  match firstN rest with
  | none => e = .returned (.bool false) ∧ Below w.heap.size w w'
  | some (x, r) => e = .returned (.bool true) ∧ w'.cell? ⟨rb, 0, none⟩ = some (.string (bs r)) ∧ (∃ v, w'.cell? ⟨xb, 2, none⟩ = some v ∧ Strs w' B v (ns ++ [x])) ∧
      (∀ a u, w.cell? a = some u → a.block < B → a ≠ ⟨rb, 0, none⟩ → a ≠ ⟨xb, 2, none⟩ → w'.cell? a = some u) ∧ (∀ a, a.block < B → a.block < w.heap.size → w'.frozen? a = w.frozen? a) ∧ (∀ C, C ≤ rb → C ≤ xb → C ≤ B → Below C w w')

theorem cutC_some {rest x r : List UInt8} {ns : List (List UInt8)} {rb xb B : Nat} {w w1 w2 : World} {v v' u : Value} {s : ByteArray} {o : Obj} (e1 : firstN rest = some (x, r))
    (hr : w.cell? ⟨rb, 0, none⟩ = some u) {vx : Value} (hx : w.cell? ⟨xb, 2, none⟩ = some vx) (h1 : Below w.heap.size w w1) (hs : Strs w B v ns) (hrx : rb ≠ xb) (hrB : rb < B) (hxB : xb < B)
    (hg : (w1.alloc o).drew.grownBy w2 v.ownBlock) (hown : Strs w2 B v' (ns ++ [x])) (hS : s = bs r) :
    CutC rest ns rb xb B w (.returned (.bool true)) ((w2.setCell ⟨xb, 2, none⟩ v').setCell ⟨rb, 0, none⟩ (.string s)) := by
  have hv : ∀ k, v.ownBlock = some k → B ≤ k := fun k hk => (own_cells hs k hk).1
  have hz := h1.size
  -- a block below B that was there is kept in w2
  have keep : ∀ k, k < B → k < w.heap.size → w2.heap[k]? = w.heap[k]? := fun k hk hk2 =>
    (hg.block k (by simp; omega) (fun e => by have := hv k e.symm; omega)).trans ((Below.heap_alloc w1 o k (by omega)).trans (h1.block k hk2))
  have hrw : rb < w.heap.size := blk_of_cell hr
  have hxw : xb < w.heap.size := blk_of_cell hx
  have hr2 : w2.cell? ⟨rb, 0, none⟩ = some u := (World.cell?_of_block (keep rb hrB hrw)).trans hr
  have hx2 : w2.cell? ⟨xb, 2, none⟩ = some vx := (World.cell?_of_block (keep xb hxB hxw)).trans hx
  unfold CutC; rw [e1]
  refine ⟨rfl, ?_, ⟨v', ?_, ?_⟩, ?_, ?_, ?_⟩
  · rw [hS]; exact cell_set_same ((cell_set_ne hrx).trans hr2)
  · exact (cell_set_ne (fun h => hrx h.symm)).trans (cell_set_same hx2)
  · exact (hown.set hxB _).set hrB _
  · intro a u' ha hb n1 n2
    rw [World.cell?_setCell_other _ _ _ _ (fun h => n1 h.symm), World.cell?_setCell_other _ _ _ _ (fun h => n2 h.symm), World.cell?_of_block (keep a.block hb (blk_of_cell ha)), ha]
  · intro a hb hw
    rw [World.frozen?_setCell, World.frozen?_setCell, World.frozen?_of_block (keep a.block hb hw)]
  · intro C c1 c2 c3
    have hm := hg.size
    have b1 : Below C w w1 := by
      by_cases hC : C ≤ w.heap.size
      · exact h1.mono hC
      · omega
    have b2 : Below C w (w1.alloc o).drew := ⟨b1.os, b1.tape, b1.output, by simp; omega, fun k hk => (Below.heap_alloc w1 o k (by omega)).trans (b1.block k hk)⟩
    exact ((b2.grown hg (by simp; omega) (fun k hk => by have := hv k hk; omega)).setCell c2 _).setCell c1 _

set_option maxRecDepth 100000 in
set_option maxHeartbeats 1000000 in
theorem cutc_any (rest : List UInt8) (ns : List (List UInt8)) (v : Value) (rb xb B : Nat) (w : World) (hlen : rest.length ≤ 1048576) (hns : ns.length ≤ 4)
    (hr : w.cell? ⟨rb, 0, none⟩ = some (.string (bs rest))) (fr : w.frozen? ⟨rb, 0, none⟩ = false) (hx : w.cell? ⟨xb, 2, none⟩ = some v) (fx : w.frozen? ⟨xb, 2, none⟩ = false) (hs : Strs w B v ns)
    (hrx : rb ≠ xb) (hrB : rb < B) (hxB : xb < B) (hB : B ≤ w.heap.size) :
    Calls Try.prog 118 #[.pointer (some ⟨rb, 0, none⟩), .pointer (some ⟨xb, 0, none⟩)] w (CutC rest ns rb xb B w) := by
  obtain ⟨i0, hi, hz0, hz1, hz2⟩ := info_parts info_string
  generalize hS : bs rest = s at *
  have hsz : s.size = rest.length := by rw [← hS, bs_size]
  have hlst : lst s = rest := by rw [← hS, lst_bs]
  have HS := Lib.hid hS
  have Hlst := Lib.hid hlst
  have Hsz := Lib.hid hsz
  have hs20 : s.size ≤ 1048576 := by omega
  have Hs := Lib.hid hs
  clear hS hlst hsz hlen hs
  go_enter Try.func118, Try.ntmps118
  go_wp2
  go_loop [3] (fun at_ => ∃ k : Nat, at_ = .int .i64 k ∧ k ≤ s.size + 300 ∧ skip rest = k + skip (rest.drop k)) (fun at_ => s.size + 300 - (intOf at_).toNat)
  case atStart => exact ⟨0, rfl, by omega, by simp⟩
  case round =>
    obtain ⟨k, rfl, hk, hsk⟩ := hrel
    have Hsk := Lib.hid hsk
    clear hsk
    by_cases hlt : k < s.size
    · obtain ⟨c, hcv⟩ : ∃ c, s[k].toNat = c := ⟨_, rfl⟩
      have hc255 : c ≤ 255 := by have := s[k].toNat_lt; omega
      have Hget := Lib.hid (lst_get s k hlt)
      rw [Hlst.out] at Hget
      by_cases hc0 : c = 0
      · have h0 : ((c : Int) != 0) = false := by simp [hc0]
        have Hk : Hid (skip rest = k) := Lib.hid (by rw [Hsk.out, skip_zero (by rw [Hget.out]; congr 1; exact UInt8.toNat_inj.1 (by rw [hcv, hc0]; rfl))]; rfl)
        clear hc0
        by_cases hck : chk (rest.take (k + 1)) = 0
        · have hb : ((chk (rest.take (k + 1)) : Int) != 0) = false := by rw [hck]; rfl
          have Hck := Lib.hid hck
          clear hck
          have e1 : Hid (firstN rest = some (rest.take (k + 1), rest.drop (k + 1))) := by
            show firstN rest = _
            unfold firstN; rw [Hk.out, if_pos ⟨by rw [← Hlst.out, lst_length]; exact hlt, Hck.out⟩]
          go_wp2_with fail
          refine (check_any (s.extract 0 (k + 1)) _ (by rw [ByteArray.size_extract]; omega)).mono ?_
          rw [show lst (s.extract 0 (k + 1)) = rest.take (k + 1) by rw [extract_bs, lst_bs, Hlst.out]; simp]
          rintro e w1 ⟨rfl, h1⟩
          have hy1 := h1.size
          have hr1 := (h1.cell (blk_of_cell hr)).trans hr
          have hx1 := (h1.cell (blk_of_cell hx)).trans hx
          have fr1 := (h1.frozen (blk_of_cell hr)).trans fr
          have fx1 := (h1.frozen (blk_of_cell hx)).trans fx
          have Hs1 := Lib.hid (Hs.out.below h1)
          go_wp2
          have mw : IntKind.i64.wrap ((k : Int) + 1) = (k : Int) + 1 := IntWalk.i64_in _ (by omega)
          have mw0 : 0 ≤ (k : Int) + 1 := by omega
          have mw1 : (k : Int) + 1 ≤ s.size := by omega
          have mw2 : ((k : Int) + 1).toNat = k + 1 := by omega
          have q3 : ns.length + 1 ≤ maxLen := by unfold maxLen; omega
          have q4 : (ns.length + 1) * 16 ≤ 140737488355328 := by omega
          have q5 : Hid (B ≤ (w1.alloc (.cells #[.string (s.extract 0 (k + 1))] 9)).drew.heap.size) := Lib.hid (by simp; omega)
          have own1 := Lib.hid (own_drew (Hs1.out.alloc (.cells #[.string (s.extract 0 (k + 1))] 9)))
          have new1 : Hid (∀ j u, [Value.string (s.extract 0 (k + 1))][j]? = some u → (w1.alloc (.cells #[.string (s.extract 0 (k + 1))] 9)).drew.cell? ((⟨w1.heap.size, 0, none⟩ : Addr).add j) = some u) := Lib.hid (cell_one_new w1 (.string (s.extract 0 (k + 1))) 9)
          have one1 : Hid (∀ u ∈ [Value.string (s.extract 0 (k+1))], u.oneCell' = true) := Lib.hid (fun u hu => by simp only [List.mem_singleton] at hu; subst hu; rfl)
          have nex : v.ownBlock ≠ some xb := by rcases own_ne own1.out xb hxB with h | h; (rw [h]; simp); exact h
          have ner : v.ownBlock ≠ some rb := by rcases own_ne own1.out rb hrB with h | h; (rw [h]; simp); exact h
          have ax := alloc_cell hx1 (.cells #[.string (s.extract 0 (k + 1))] 9)
          have ar := alloc_cell hr1 (.cells #[.string (s.extract 0 (k + 1))] 9)
          rw [fx1] at ax
          rw [fr1] at ar
          have ax' : Hid _ := Lib.hid ax
          have ar' : Hid _ := Lib.hid ar
          clear ax ar
          have ax1 := ax'.out.1
          have ar1 := ar'.out.1
          go_region_law (refine step_append_lies _ rfl _ _ 47 rfl B 9 i0 (.string ⟨#[]⟩) 1 16 Try.underlying47 hi hz0 hz1 hz2 rfl (Nat.lt_succ_self 0) _ _ _ rfl own1.out ⟨w1.heap.size, 0, none⟩ 1 1 [.string (s.extract 0 (k+1))] rfl rfl new1.out one1.out (Nat.lt_succ_self 0) q3 q4 q5.out _ rfl ?_; intro g cap w2 hown2 hgrow2 hlies hlt2; have hx2 := (grown_cell hgrow2 ax'.out.1 nex).1; have fx2 := (grown_cell hgrow2 ax'.out.1 nex).2.trans ax'.out.2; have hr2 := (grown_cell hgrow2 ar'.out.1 ner).1; have fr2 := (grown_cell hgrow2 ar'.out.1 ner).2.trans ar'.out.2; have Hown2 := Lib.hid hown2; have Hgrow2 := Lib.hid hgrow2; clear hown2 hgrow2)
          all_goals go_wp2
          all_goals go_ret
          all_goals exact cutC_some e1.out hr hx h1 Hs.out hrx hrB hxB Hgrow2.out (by have := Hown2.out; rw [extract_bs, Hlst.out] at this; unfold Strs; simpa using this) (by rw [extract_bs, Hlst.out]; congr 1; rw [List.take_of_length_le]; rw [List.length_drop, ← Hlst.out, lst_length]; exact Nat.le_refl _)
        · have hb : ((chk (rest.take (k + 1)) : Int) != 0) = true := by rw [bne_iff_ne]; exact hck
          have Hck := Lib.hid hck
          clear hck
          have e1 : Hid (firstN rest = none) := by
            show firstN rest = _
            unfold firstN; rw [Hk.out, if_neg (fun h => Hck.out h.2)]
          go_wp2_with fail
          refine (check_any (s.extract 0 (k + 1)) _ (by rw [ByteArray.size_extract]; omega)).mono ?_
          rw [show lst (s.extract 0 (k + 1)) = rest.take (k + 1) by rw [extract_bs, lst_bs, Hlst.out]; simp]
          rintro e w1 ⟨rfl, h1⟩
          go_wp2
          go_ret
          unfold CutC; rw [e1.out]
          exact ⟨rfl, h1⟩
      · have h0 : ((c : Int) != 0) = true := by simp [hc0]
        have Hk : Hid (skip rest = k + 1 + c + skip (rest.drop (k + 1 + c))) := Lib.hid (by rw [Hsk.out, skip_step Hget.out (fun h => hc0 (by rw [← hcv, h]; rfl)), hcv]; omega)
        clear hc0
        go_wp2
        go_round
        case rel => exact ⟨k + 1 + c, by go_num, by omega, Hk.out⟩
        case measure => simp [intOf]; omega
    · have Hk : Hid (skip rest = k) := Lib.hid (by rw [Hsk.out, skip_end (by rw [← Hlst.out, lst_length]; omega)]; rfl)
      go_wp2
      go_ret
      unfold CutC firstN
      rw [if_neg (by rw [Hk.out, ← Hlst.out, lst_length]; omega)]
      exact ⟨rfl, Below.refl _ _⟩
end Go.Proofs.Ytihfapnipifiiaa
