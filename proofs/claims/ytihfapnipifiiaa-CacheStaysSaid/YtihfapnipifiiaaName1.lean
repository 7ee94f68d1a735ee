/- The walks of package name: each, Labels, Check, Depth. -/
import Derived.Test.YtihfapnipifiiaaProg
import Derived.Test.YtihfapnipifiiaaSpec
import Derived.Test.YtihfapnipifiiaaRange
import Derived.Test.YtihfapnipifiiaaWorld
import Derived.WalkKit
import Derived.WalkSpells
import Derived.WalkLawsBesides
import Derived.Lib.Hide
import Derived.Shelf.Abstract
import Derived.Lib.Strings
import Derived.OwnWalkIn
import Derived.TacticsInMore
import Derived.LoopNIn
import Derived.LoopIn
namespace Go.Proofs.Ytihfapnipifiiaa
open Go Go.RowKit
attribute [local go_sem] Oper.semAt_some

theorem info_string : (Try.prog.info? 9).map (fun i => (i.zero, i.size, i.bytes)) = some (some (.string ⟨#[]⟩), 1, 16) := by kernel_rfl
theorem lst_get (s : ByteArray) (k : Nat) (h : k < s.size) : (lst s)[k]? = some s[k] := by
  rw [List.getElem?_eq_getElem (by rw [lst_length]; exact h)]; rfl
theorem extract_bs (s : ByteArray) (a b : Nat) : s.extract a b = bs (((lst s).drop a).take (b - a)) := by
  apply lst_inj; rw [lst_bs]; unfold lst; rw [Lib.extract_data]

/-- Some cells read as they did. -/
def KeepC (S : Addr → Prop) (A B : World) : Prop := ∀ a, S a → B.cell? a = A.cell? a ∧ B.frozen? a = A.frozen? a
theorem KeepC.trans {S : Addr → Prop} {A B C : World} (h : KeepC S A B) (k : KeepC S B C) : KeepC S A C := fun a ha => ⟨(k a ha).1.trans (h a ha).1, (k a ha).2.trans (h a ha).2⟩

/-- The iterator that 'each' makes: it goes over the labels; its last step is to tell where the row ends. -/
def EachKp (nb eb : Nat) (ep : Addr) : World → World → Prop := KeepC (fun a => a = ⟨nb, 0, none⟩ ∨ a = ⟨eb, 0, none⟩ ∨ a = ep)
def EachIt (ep : Addr) (A B : World) : Prop := ∃ v : Int, (∃ u : Int, A.cell? ep = some (.int .i64 u)) ∧ B = A.setCell ep (.int .i64 v)
def EachPf (s : ByteArray) (xs : List (Nat × Nat)) : Prop := xs <+: (scan (lst s) 0).1
def EachDn (s : ByteArray) (ep : Addr) (xs : List (Nat × Nat)) (W : World) : Prop := xs = (scan (lst s) 0).1 ∧ W.cell? ep = some (.int .i64 (scan (lst s) 0).2)
def eachEnc (s : ByteArray) (x : Nat × Nat) : Array Value := #[.int .i64 x.1, .string (s.extract (x.1 + 1) (x.1 + 1 + x.2))]

def EachRel (s : ByteArray) (nb eb : Nat) (ep : Addr) (J : List (Nat × Nat) → World → Prop) (k : Nat) (wr : World) : Prop :=
  ∃ xs : List (Nat × Nat), J xs wr ∧ (scan (lst s) 0).1 = xs ++ (scan ((lst s).drop k) k).1 ∧ (scan (lst s) 0).2 = (scan ((lst s).drop k) k).2 ∧
    wr.cell? ⟨nb, 0, none⟩ = some (.string s) ∧ wr.cell? ⟨eb, 0, none⟩ = some (.pointer (some ep)) ∧ wr.cell? ep = some (.int .i64 (-1)) ∧ wr.frozen? ep = false

set_option maxRecDepth 100000 in
set_option maxHeartbeats 1000000 in
theorem each_iter (s : ByteArray) (nb eb : Nat) (ep : Addr) (W : World) (hs : s.size ≤ 1099511627776)
    (hn : W.cell? ⟨nb, 0, none⟩ = some (.string s)) (he : W.cell? ⟨eb, 0, none⟩ = some (.pointer (some ep))) (u0 : Int) (hp : W.cell? ep = some (.int .i64 u0)) (hf : W.frozen? ep = false)
    (d1 : nb ≠ ep.block) (d2 : eb ≠ ep.block) :
    Iter Try.prog 119 #[.pointer (some ⟨eb, 0, none⟩), .pointer (some ⟨nb, 0, none⟩)] (eachEnc s) (EachKp nb eb ep) (EachIt ep) (EachPf s) (EachDn s ep) W := by
  intro l J Jx hJ0 hIt hY
  refine (callsIn_wide (n := 2)).1 ?_
  have HJ0 := Lib.hid (hIt _ _ _ hJ0 ⟨-1, ⟨u0, hp⟩, rfl⟩)
  clear hJ0
  refine callsIn_of_wp Try.func119 rfl trivial ?_
  simp only [Try.ntmps119, List.size_toArray, List.length_cons, List.length_nil, Nat.reduceAdd, Nat.reduceSub, Array.replicate_succ, Array.replicate_zero, List.push_toArray, List.append_toArray, List.nil_append, List.cons_append]
  gi_wp2
  gi_loopw [4] (fun at_ wr => ∃ k : Nat, at_ = .int .i64 k ∧ k ≤ s.size ∧ EachRel s nb eb ep J k wr) (fun i _ => s.size - (intOf i).toNat)
  case atStart =>
    refine ⟨0, rfl, Nat.zero_le _, [], HJ0.out, by simp, by simp, ?_, ?_, ?_, ?_⟩
    · exact (cell_set_ne d1).trans hn
    · exact (cell_set_ne d2).trans he
    · exact World.cell?_setCell_same' _ _ _ (by rw [hp]; rfl)
    · rw [World.frozen?_setCell]; exact hf
  case round =>
    obtain ⟨k, rfl, hk, xs, hJ, hs1, hs2, hn', he', hp', hf'⟩ := hrel
    have Hs1 := Lib.hid hs1
    have Hs2 := Lib.hid hs2
    clear hs1 hs2 hp hn he hf
    have hget : (lst s).length = s.size := lst_length s
    by_cases hlt : k < s.size
    · obtain ⟨c, hcv⟩ : ∃ c, s[k].toNat = c := ⟨_, rfl⟩
      have hc255 : c ≤ 255 := by have := s[k].toNat_lt; omega
      have Hget := Lib.hid (lst_get s k hlt)
      by_cases hc0 : c = 0
      · have h0 : ((c : Int) != 0) = false := by simp [hc0]
        have HS : Hid (scan ((lst s).drop k) k = ([], (k : Int))) := Lib.hid (scan_zero (by rw [Hget.out]; congr 1; exact UInt8.toNat_inj.1 (by rw [hcv, hc0]; rfl)))
        clear hc0
        gi_wp2
        go_end0
        exact IterPost.done (xs := xs) (hIt _ _ _ hJ ⟨k, ⟨-1, hp'⟩, rfl⟩) ⟨by rw [Hs1.out, HS.out]; simp, by rw [Hs2.out, HS.out]; exact cell_set_same hp'⟩
      · have h0 : ((c : Int) != 0) = true := by simp [hc0]
        have Hc0 : Hid (s[k] ≠ 0) := Lib.hid (fun h => hc0 (by rw [← hcv, h]; rfl))
        clear hc0
        by_cases h63 : c ≤ 63
        · by_cases hroom : k + 1 + c ≤ s.size
          · have HS := Lib.hid (scan_step Hget.out Hc0.out (by omega) (by omega))
            rw [hcv] at HS
            have hpf : EachPf s (xs ++ [(k, c)]) := by
              unfold EachPf; rw [Hs1.out, HS.out]; exact ⟨(scan (List.drop (k + 1 + c) (lst s)) (k + 1 + c)).1, by simp⟩
            obtain ⟨fn, tmps, assign, body, hy, hR⟩ := hY xs (k, c) wr hJ hpf
            simp only [eachEnc] at hy
            gi_wp2
            refine hR.mono ?_
            rintro e W' (⟨rfl, hJ', hkp⟩ | ⟨rfl, hJx'⟩)
            · gi_wp2
              go_roundw
              case rel => exact ⟨k + 1 + c, by go_num, by omega, xs ++ [(k, c)], hJ', by rw [Hs1.out, HS.out]; simp, by rw [Hs2.out, HS.out], (hkp _ (.inl rfl)).1.trans hn', (hkp _ (.inr (.inl rfl))).1.trans he', (hkp _ (.inr (.inr rfl))).1.trans hp', (hkp _ (.inr (.inr rfl))).2.trans hf'⟩
              case measure => simp [intOf]; omega
            · gi_wp2
              go_end0
              exact IterPost.stop hJx'
          · have HS := Lib.hid (scan_bad Hget.out Hc0.out (.inr (by omega)))
            gi_wp2
            refine ⟨fun _ h => (by cases h), ?_⟩
            gi_wp2
            go_end0
            exact IterPost.done (xs := xs) hJ ⟨by rw [Hs1.out, HS.out]; simp, by rw [Hs2.out, HS.out]; exact hp'⟩
        · have HS := Lib.hid (scan_bad Hget.out Hc0.out (.inl (by omega)))
          gi_wp2
          refine ⟨fun _ h => (by cases h), ?_⟩
          gi_wp2
          go_end0
          exact IterPost.done (xs := xs) hJ ⟨by rw [Hs1.out, HS.out]; simp, by rw [Hs2.out, HS.out]; exact hp'⟩
    · have HS := Lib.hid (scan_end (l := lst s) (k := k) (by omega))
      gi_wp2
      go_end0
      exact IterPost.done (xs := xs) (hIt _ _ _ hJ ⟨k, ⟨-1, hp'⟩, rfl⟩) ⟨by rw [Hs1.out, HS.out]; simp, by rw [Hs2.out, HS.out]; exact cell_set_same hp'⟩
end Go.Proofs.Ytihfapnipifiiaa
