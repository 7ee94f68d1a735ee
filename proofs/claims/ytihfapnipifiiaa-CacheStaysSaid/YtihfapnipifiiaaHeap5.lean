/- The walks of container/heap's Push and Remove. -/
import Derived.Test.YtihfapnipifiiaaHeap4
namespace Go.Proofs.Ytihfapnipifiiaa
open Go Go.RowKit Go.Shelf

theorem upL_perm : ∀ (j : Nat) (its : List It), (upL its j).Perm its := by
  intro j
  induction j using Nat.strongRecOn with
  | _ j ih =>
    intro its
    by_cases h0 : j = 0
    · subst h0; rw [upL_zero]
    · by_cases h : untilAt its j < untilAt its ((j - 1) / 2)
      · rw [upL_go h0 h]; exact (ih _ (by omega) _).trans (swapL_perm _ _ _)
      · rw [upL_stop h]
theorem downL_perm : ∀ (d i n : Nat) (its : List It), n - i = d → (downL its i n).1.Perm its := by
  intro d
  induction d using Nat.strongRecOn with
  | _ d ih =>
    intro i n its hd
    by_cases h0 : n ≤ 2 * i + 1
    · rw [downL_end h0]
    · by_cases h : untilAt its (childL its i n) < untilAt its i
      · have := childL_gt its i n
        rw [downL_go h0 h]; exact (ih (n - childL its i n) (by omega) _ _ _ rfl).trans (swapL_perm _ _ _)
      · rw [downL_stop h]

theorem ModS.comp {S T : Nat → Prop} {a b c : World} (h : ModS S a b) (k : ModS T b c) (hT : ∀ i, i < a.heap.size → T i → S i) : ModS S a c :=
  ⟨k.os.trans h.os, k.tape.trans h.tape, k.output.trans h.output, Nat.le_trans h.size k.size, fun i hi hn => (k.block i (Nat.lt_of_lt_of_le hi h.size) (fun ht => hn (hT i hi ht))).trans (h.block i hi hn)⟩

set_option maxRecDepth 100000 in
theorem method_ptr {name : String} {f : Nat} (hf : (Try.t106.methods.find? (fun x => x.name == name)).map (fun m => (m.path, m.func)) = some (#[], some (f, true))) (sa : Addr) (w : World) :
    (method 319 106 (.pointer (some sa)) name).run Try.prog w = .ok (f, .pointer (some sa)) w := by
  unfold method
  cases hm : Try.t106.methods.find? (fun x => x.name == name) with
  | none => rw [hm] at hf; cases hf
  | some m =>
    rw [hm] at hf
    simp only [Option.map_some, Option.some.injEq, Prod.mk.injEq] at hf
    simp [go_sem, hm, hf.1, hf.2, follow, receiverAt, Place.get, wrapnil]

/-- What holds of a heap's slice in memory, with its cell. -/
structure Stale (W : World) (base : Nat) (sa : Addr) (v : Value) (its : List It) : Prop where
  cell : W.cell? sa = some v
  free : W.frozen? sa = false
  st : StaleV W base v its
  apart : sa.block ∉ its.map It.blk
  low : sa.block < base
/-- The blocks that a heap's slice may turn. -/
def staleS (sa : Addr) (v : Value) (its : List It) (k : Nat) : Prop := k = sa.block ∨ v.ownBlock = some k ∨ k ∈ its.map It.blk

set_option maxRecDepth 100000 in
set_option maxHeartbeats 2000000 in
theorem heapPush_any (base : Nat) (v : Value) (x : It) (a0 : Nat) (sa : Addr) (its : List It) (w : World) (h : Stale w base sa v its)
    (hx : ItemAt w x a0) (hxn : x.blk ∉ its.map It.blk) (hsx : sa.block ≠ x.blk) (hxb : base ≤ w.heap.size) (hlen : its.length ≤ 1099511627776) :
    Calls Try.prog 58 #[.iface 106 (.pointer (some sa)), .iface 100 x.ptr] w fun e w' => e = .returned (.tuple #[]) ∧
      ∃ v', Stale w' base sa v' (upL (its ++ [x]) its.length) ∧ ModS (staleS sa v (its ++ [x])) w w' ∧ (∀ k, v'.ownBlock = some k → v.ownBlock = some k ∨ w.heap.size ≤ k) ∧ SaBlk w w' sa v' := by
  obtain ⟨h1, h2, h3, h4, h5⟩ := h
  have mp := method_ptr find_push sa
  go_enter Try.func58, Try.ntmps58
  go_wp2_with fail
  refine (hpush_any base v x a0 sa its w h3 h1 h2 hx hxn hsx h4 h5 hxb hlen).mono ?_
  rintro e w1 ⟨rfl, v', c1, f1, st1, m1, o1, s1⟩
  have hne : (its ++ [x]) ≠ [] := by simp
  obtain ⟨g, cap, rfl, hb, hr⟩ : ∃ g cap, v' = .slice (some ⟨g, 0, none⟩) (its ++ [x]).length cap ∧ base ≤ g ∧ HeapRow w1 g cap (its ++ [x]) := by
    rcases st1 with ⟨_, h⟩ | h
    · exact absurd h hne
    · exact h
  have hl : (its ++ [x]).length = its.length + 1 := by simp
  have hapart : sa.block ∉ (its ++ [x]).map It.blk := by
    rw [List.map_append, List.mem_append]; rintro (h | h)
    · exact h4 h
    · simp at h; exact hsx h
  have ml := method_val find_len sa _ _ _ w1 c1
  have HR := Lib.hid hr
  have C1 := Lib.hid c1
  have F1 := Lib.hid f1
  have M1 := Lib.hid m1
  have O1 := Lib.hid o1
  have S1 := Lib.hid s1
  clear hr st1 m1 o1 f1 h1 h2 h3 c1 s1
  rw [hl] at ml
  go_wp2_with fail
  refine (hlen_any _ _ _ _).mono ?_
  rintro e w2 ⟨rfl, rfl⟩
  go_wp2_with fail
  rw [hl] at C1
  refine (hup_any g cap its.length sa (its ++ [x]) w1 HR.out (by rw [hl]; omega) (by rw [hl]; exact C1.out) (by
    rintro (h | h)
    · omega
    · exact hapart h)).mono ?_
  rintro e w2 ⟨rfl, h2, m2⟩
  go_wp2
  go_end0
  have hp := upL_perm its.length (its ++ [x])
  have hnS : ¬ heapS g (its ++ [x]) sa.block := by
    rintro (h | h)
    · omega
    · exact hapart h
  refine ⟨rfl, .slice (some ⟨g, 0, none⟩) (its.length + 1) cap, ⟨m2.cell C1.out hnS, (m2.frozen (blk_of_cell C1.out) hnS).trans F1.out, .inr ⟨g, cap, by rw [hp.length_eq, hl], hb, h2⟩, ?_, h5⟩, ?_, ?_, ?_⟩
  · intro hm; exact hapart (((hp.map It.blk).mem_iff).1 hm)
  · refine ModS.comp (M1.out.mono ?_) m2 ?_
    · rintro k (h | h | h)
      · exact .inl h
      · exact .inr (.inr (by rw [List.map_append, List.mem_append]; right; simp [h]))
      · exact .inr (.inl h)
    · rintro k hk (h | h)
      · subst h
        rcases O1.out k rfl with h | h
        · exact .inr (.inl h)
        · omega
      · exact .inr (.inr h)
  · rw [hl] at O1; exact O1.out
  · rw [hl] at S1; exact S1.out.behind (m2.block _ (blk_of_cell C1.out) hnS)
end Go.Proofs.Ytihfapnipifiiaa
