/- What package name and its reference compute, as plain functions on lists of bytes. A law for a range over a function at the widest fence: the caller's invariant needs to abide only what the loop's own bookkeeping does. Small facts on worlds. The walks of package name: each, Labels, Check, Depth. The walks of package name: each, Labels, Check, Depth. The walks of name.Lower and of its reference. The walks of package name: slices.Reverse, two, Shared, Same, Under. The walks of package name: Shared, Same, Under. -/
import Derived.WalkKit
import Derived.RangeFuncNested
import Derived.RangeFuncBound
import Derived.RangeFuncCalls
import Derived.RangeFuncLeaves
import Derived.Lib.Hide
import Derived.Lib.Strings
import Derived.Test.YtihfapnipifiiaaProg
import Derived.WalkSpells
import Derived.WalkLawsBesides
import Derived.Shelf.Abstract
import Derived.OwnWalkIn
import Derived.TacticsInMore
import Derived.LoopNIn
import Derived.LoopIn
import Derived.Lib.ConvBytes
import Derived.Laws.BytesArg
import Derived.Laws.BitsAllLaws
import Derived.RegionTactic
import Derived.ChangeAlike
import Derived.BigRegion
import Derived.Deep.QuietTactic
import Derived.BigQuiet
set_option linter.unusedVariables false
set_option linter.unusedSimpArgs false
/- What package name and its reference compute, as plain functions on lists of bytes. -/
namespace Go.Proofs.Ytihfapnipifiiaa
open Go.RowKit

/-- A string of a list of bytes. -/
def bs (l : List UInt8) : ByteArray := ⟨l.toArray⟩
/-- A string's bytes. -/
def lst (s : ByteArray) : List UInt8 := s.data.toList
theorem lst_bs (l : List UInt8) : lst (bs l) = l := by simp [lst, bs]
theorem bs_lst (s : ByteArray) : bs (lst s) = s := by
  cases s with
  | mk d => show ByteArray.mk d.toList.toArray = ByteArray.mk d; rw [Array.toArray_toList]
theorem lst_length (s : ByteArray) : (lst s).length = s.size := by
  unfold lst ByteArray.size; exact Array.length_toList
theorem bs_size (l : List UInt8) : (bs l).size = l.length := by
  unfold bs ByteArray.size; exact List.size_toArray
theorem bs_inj {a b : List UInt8} (h : bs a = bs b) : a = b := by rw [← lst_bs a, h, lst_bs]
theorem lst_inj {a b : ByteArray} (h : lst a = lst b) : a = b := by rw [← bs_lst a, h, bs_lst]

/-- The labels of a row that ends with the byte 0. -/
def lab : List UInt8 → Option (List (List UInt8))
  | [] => none
  | c :: r =>
    if c = 0 then (if r = [] then some [] else none)
    else if 63 < c.toNat ∨ r.length < c.toNat then none
    else (lab (r.drop c.toNat)).map (r.take c.toNat :: ·)
termination_by l => l.length
decreasing_by simp only [List.length_drop, List.length_cons]; omega

theorem lab_nil : lab [] = none := by rw [lab]
theorem lab_zero {l : List UInt8} {k : Nat} (h : l[k]? = some 0) : lab (l.drop k) = if k + 1 = l.length then some [] else none := by
  have hk : k < l.length := by
    rcases Nat.lt_or_ge k l.length with h' | h'
    · exact h'
    · rw [List.getElem?_eq_none h'] at h; cases h
  have e : l.drop k = 0 :: l.drop (k + 1) := by
    rw [List.drop_eq_getElem_cons hk]; congr 1
    rw [List.getElem?_eq_getElem hk] at h; exact Option.some.inj h
  rw [e, lab, if_pos rfl]
  by_cases h2 : k + 1 = l.length
  · rw [if_pos h2, if_pos (by rw [h2]; simp)]
  · rw [if_neg h2, if_neg (by intro h3; have := congrArg List.length h3; simp at this; omega)]
theorem lab_end {l : List UInt8} {k : Nat} (h : l.length ≤ k) : lab (l.drop k) = none := by rw [List.drop_eq_nil_of_le h, lab_nil]
theorem lab_bad {l : List UInt8} {k : Nat} {c : UInt8} (h : l[k]? = some c) (h0 : c ≠ 0) (hb : 63 < c.toNat ∨ l.length < k + 1 + c.toNat) : lab (l.drop k) = none := by
  have hk : k < l.length := by
    rcases Nat.lt_or_ge k l.length with h' | h'
    · exact h'
    · rw [List.getElem?_eq_none h'] at h; cases h
  have e : l.drop k = c :: l.drop (k + 1) := by
    rw [List.drop_eq_getElem_cons hk]; congr 1
    rw [List.getElem?_eq_getElem hk] at h; exact Option.some.inj h
  rw [e, lab, if_neg h0, if_pos]
  rcases hb with hb | hb
  · exact .inl hb
  · right; simp; omega
theorem lab_step {l : List UInt8} {k : Nat} {c : UInt8} (h : l[k]? = some c) (h0 : c ≠ 0) (h1 : c.toNat ≤ 63) (h2 : k + 1 + c.toNat ≤ l.length) :
    lab (l.drop k) = (lab (l.drop (k + 1 + c.toNat))).map ((l.drop (k + 1)).take c.toNat :: ·) := by
  have hk : k < l.length := by omega
  have e : l.drop k = c :: l.drop (k + 1) := by
    rw [List.drop_eq_getElem_cons hk]; congr 1
    rw [List.getElem?_eq_getElem hk] at h; exact Option.some.inj h
  rw [e, lab, if_neg h0, if_neg (by simp; omega), List.drop_drop]

/-- The places and lengths of the labels of a row from place k on (l: what stands from there on), and where it ends; below 0: it is none. -/
def scan : List UInt8 → Nat → List (Nat × Nat) × Int
  | [], k => ([], k)
  | c :: r, k =>
    if c = 0 then ([], k)
    else if 63 < c.toNat ∨ r.length < c.toNat then ([], -1)
    else ((k, c.toNat) :: (scan (r.drop c.toNat) (k + 1 + c.toNat)).1, (scan (r.drop c.toNat) (k + 1 + c.toNat)).2)
termination_by l => l.length
decreasing_by all_goals (simp only [List.length_drop, List.length_cons]; omega)

theorem drop_cons {l : List UInt8} {k : Nat} {c : UInt8} (h : l[k]? = some c) : l.drop k = c :: l.drop (k + 1) := by
  have hk : k < l.length := by
    rcases Nat.lt_or_ge k l.length with h' | h'
    · exact h'
    · rw [List.getElem?_eq_none h'] at h; cases h
  rw [List.drop_eq_getElem_cons hk]; congr 1
  rw [List.getElem?_eq_getElem hk] at h; exact Option.some.inj h
theorem scan_end {l : List UInt8} {k : Nat} (h : l.length ≤ k) : scan (l.drop k) k = ([], (k : Int)) := by rw [List.drop_eq_nil_of_le h, scan]
theorem scan_zero {l : List UInt8} {k : Nat} (h : l[k]? = some 0) : scan (l.drop k) k = ([], (k : Int)) := by rw [drop_cons h, scan, if_pos rfl]
theorem scan_bad {l : List UInt8} {k : Nat} {c : UInt8} (h : l[k]? = some c) (h0 : c ≠ 0) (hb : 63 < c.toNat ∨ l.length < k + 1 + c.toNat) : scan (l.drop k) k = ([], -1) := by
  have hk : k < l.length := by
    rcases Nat.lt_or_ge k l.length with h' | h'
    · exact h'
    · rw [List.getElem?_eq_none h'] at h; cases h
  rw [drop_cons h, scan, if_neg h0, if_pos]
  rcases hb with hb | hb
  · exact .inl hb
  · right; simp; omega
theorem scan_step {l : List UInt8} {k : Nat} {c : UInt8} (h : l[k]? = some c) (h0 : c ≠ 0) (h1 : c.toNat ≤ 63) (h2 : k + 1 + c.toNat ≤ l.length) :
    scan (l.drop k) k = ((k, c.toNat) :: (scan (l.drop (k + 1 + c.toNat)) (k + 1 + c.toNat)).1, (scan (l.drop (k + 1 + c.toNat)) (k + 1 + c.toNat)).2) := by
  rw [drop_cons h, scan, if_neg h0, if_neg (by simp; omega), List.drop_drop]

/-- What 'scan' and 'lab' say of one row. -/
theorem scan_lab (l : List UInt8) : ∀ n k, l.length - k = n → k ≤ l.length →
    (lab (l.drop k) = if (scan (l.drop k) k).2 = (l.length : Int) - 1 ∧ 0 ≤ (scan (l.drop k) k).2 then some ((scan (l.drop k) k).1.map fun p => (l.drop (p.1 + 1)).take p.2) else none) ∧ -1 ≤ (scan (l.drop k) k).2 ∧ (scan (l.drop k) k).2 ≤ l.length ∧ ((scan (l.drop k) k).1.length : Nat) ≤ l.length - k := by
  intro n
  induction n using Nat.strongRecOn with
  | _ n ih =>
    intro k hn hk
    cases hg : l[k]? with
    | none =>
      have hk' : l.length ≤ k := by rw [List.getElem?_eq_none_iff] at hg; exact hg
      rw [lab_end hk', scan_end hk']
      refine ⟨?_, by simp only; omega, by simp only; omega, by simp⟩
      rw [if_neg (by simp only; omega)]
    | some c =>
      have hk' : k < l.length := by
        rcases Nat.lt_or_ge k l.length with h' | h'
        · exact h'
        · rw [List.getElem?_eq_none h'] at hg; cases hg
      by_cases h0 : c = 0
      · subst h0
        rw [lab_zero hg, scan_zero hg]
        refine ⟨?_, by simp only; omega, by simp only; omega, by simp⟩
        by_cases e : k + 1 = l.length
        · rw [if_pos e, if_pos (by simp only; omega)]; simp
        · rw [if_neg e, if_neg (by simp only; omega)]
      · by_cases hb : 63 < c.toNat ∨ l.length < k + 1 + c.toNat
        · rw [lab_bad hg h0 hb, scan_bad hg h0 hb]
          refine ⟨?_, by simp only; omega, by simp only; omega, by simp⟩
          rw [if_neg (by simp only; omega)]
        · have h1 : c.toNat ≤ 63 := by omega
          have h2 : k + 1 + c.toNat ≤ l.length := by omega
          rw [lab_step hg h0 h1 h2, scan_step hg h0 h1 h2]
          obtain ⟨i1, i2, i3, i4⟩ := ih (l.length - (k + 1 + c.toNat)) (by omega) (k + 1 + c.toNat) rfl h2
          refine ⟨?_, i2, i3, by simp; omega⟩
          rw [i1]
          simp only
          split <;> simp

theorem lab_of_scan (l : List UInt8) : lab l = if (scan l 0).2 = (l.length : Int) - 1 ∧ 0 ≤ (scan l 0).2 then some ((scan l 0).1.map fun p => (l.drop (p.1 + 1)).take p.2) else none := by
  have := (scan_lab l l.length 0 (by omega) (by omega)).1
  simpa using this
theorem scan_le (l : List UInt8) : -1 ≤ (scan l 0).2 ∧ (scan l 0).2 ≤ l.length ∧ (scan l 0).1.length ≤ l.length := by
  have := (scan_lab l l.length 0 (by omega) (by omega)).2
  simpa using this

/-- What 'Check' answers. -/
def chk (l : List UInt8) : Int := if (lab l).isNone then 10 else if l.length > 255 then 11 else 0
theorem chk_none {l : List UInt8} (h : lab l = none) : chk l = 10 := by unfold chk; rw [h]; rfl
theorem chk_big {l : List UInt8} {ls : List (List UInt8)} (h : lab l = some ls) (hb : 255 < l.length) : chk l = 11 := by
  unfold chk; rw [h, if_neg (by simp), if_pos hb]
theorem chk_ok {l : List UInt8} {ls : List (List UInt8)} (h : lab l = some ls) (hb : l.length ≤ 255) : chk l = 0 := by
  unfold chk; rw [h, if_neg (by simp), if_neg (by omega)]
theorem chk_zero {l : List UInt8} (h : chk l = 0) : (∃ ls, lab l = some ls) ∧ l.length ≤ 255 := by
  unfold chk at h
  cases hl : lab l with
  | none => rw [hl] at h; simp at h
  | some ls =>
    rw [hl] at h
    simp only [Option.isNone_some, Bool.false_eq_true, if_false] at h
    refine ⟨⟨ls, rfl⟩, ?_⟩
    split at h
    · cases h
    · omega

theorem lab_len {l : List UInt8} (ls : List (List UInt8)) (h : lab l = some ls) : ls.length ≤ l.length := by
  rw [lab_of_scan] at h
  split at h
  · cases h
    have := (scan_le l).2.2
    simpa using this
  · cases h

theorem lab_mem : ∀ (n : Nat) (l : List UInt8) (ls : List (List UInt8)), l.length = n → lab l = some ls → ∀ x ∈ ls, 1 ≤ x.length ∧ x.length ≤ 63 := by
  intro n
  induction n using Nat.strongRecOn with
  | _ n ih =>
    intro l ls hl h
    cases l with
    | nil => rw [lab_nil] at h; cases h
    | cons c r =>
      rw [lab] at h
      by_cases h0 : c = 0
      · rw [if_pos h0] at h
        split at h
        · cases h; intro x hx; cases hx
        · cases h
      · rw [if_neg h0] at h
        have hc : 1 ≤ c.toNat := by
          rcases Nat.eq_zero_or_pos c.toNat with e | e
          · exact absurd (UInt8.toNat_inj.1 (by rw [e]; rfl)) h0
          · exact e
        split at h
        · cases h
        · rename_i hb
          cases hd : lab (r.drop c.toNat) with
          | none => rw [hd] at h; cases h
          | some ms =>
            rw [hd] at h; cases h
            intro x hx
            rcases List.mem_cons.1 hx with rfl | hx
            · rw [List.length_take]; omega
            · exact ih (r.drop c.toNat).length (by simp only [List.length_drop, List.length_cons] at hl ⊢; omega) _ _ rfl hd x hx
theorem lab_getD {l : List UInt8} {ls : List (List UInt8)} (h : lab l = some ls) (i : Nat) : (ls.getD i []).length ≤ 63 := by
  rw [List.getD_eq_getElem?_getD]
  cases hi : ls[i]? with
  | none => simp
  | some x => exact (lab_mem _ l ls rfl h x (List.mem_of_getElem? hi)).2
/-- A byte with a small letter. -/
def lowB (c : UInt8) : UInt8 := if 65 ≤ c ∧ c ≤ 90 then c + 32 else c
def low (l : List UInt8) : List UInt8 := l.map lowB
end Go.Proofs.Ytihfapnipifiiaa
/- A law for a range over a function at the widest fence: the caller's invariant needs to abide only what the loop's own bookkeeping does. -/
namespace Go.Proofs.Ytihfapnipifiiaa
open Go Go.RowKit

/-- Whatever is no cells and lies from B on lies as it lay. -/
def KeepsNC (B : Nat) (W W' : World) : Prop := ∀ r o, B ≤ r → W.heap[r]? = some o → o.isCells = false → W'.heap[r]? = some o
theorem KeepsNC.refl (B : Nat) (W : World) : KeepsNC B W W := fun _ _ _ h _ => h
theorem KeepsNC.trans {B : Nat} {A C D : World} (h : KeepsNC B A C) (k : KeepsNC B C D) : KeepsNC B A D := fun r o hr ho hc => k r o hr (h r o hr ho hc) hc
theorem KeepsNC.of_others {B : Nat} {W W' : World} (h : KeepsOthers W W') : KeepsNC B W W' := fun r o _ ho hc => h.same r o ho hc
theorem KeepsNC.below {B : Nat} {W W' : World} (h : Below W.heap.size W W') : KeepsNC B W W' := fun r o _ ho _ => by
  have hr : r < W.heap.size := (Array.getElem?_eq_some_iff.1 ho).1
  rw [h.block r hr, ho]

/-- How a round's body may be left. -/
def rngPost {α : Type} (B : Nat) (Kp : World → World → Prop) (I : List α → World → Prop) (Ix : Code → List α → World → Prop) (xs : List α) (W : World) : Exit → Act → World → Prop
  | .normal, _, W' => KeepsNC B W W' ∧ Kp W W' ∧ I xs W'
  | .ret, _, W' => KeepsNC B W W' ∧ Ix .ret xs W'
  | .exit id, _, W' => KeepsNC B W W' ∧ Ix (.exit id) xs W'
  | .goto t, _, W' => KeepsNC B W W' ∧ Ix (.goto t) xs W'
  | .panic _, _, _ => False
  | .outgrown, _, _ => False

/-- How an iterator's call may end. -/
def IterPost {α : Type} (J : List α → World → Prop) (Dn : List α → World → Prop) (Jx : List α → World → Prop) (e : Ending) (B : World) : Prop :=
  (∃ v, e = .returned v) ∧ ((∃ xs, J xs B ∧ Dn xs B) ∨ (∃ xs, Jx xs B))
theorem IterPost.done {α : Type} {J Dn Jx : List α → World → Prop} {v : Value} {B : World} {xs : List α} (h : J xs B) (hd : Dn xs B) : IterPost J Dn Jx (.returned v) B := ⟨⟨v, rfl⟩, .inl ⟨xs, h, hd⟩⟩
theorem IterPost.stop {α : Type} {J Dn Jx : List α → World → Prop} {v : Value} {B : World} {xs : List α} (h : Jx xs B) : IterPost J Dn Jx (.returned v) B := ⟨⟨v, rfl⟩, .inr ⟨xs, h⟩⟩

/-- What an iterator is: whatever a round's word is, its rounds come one by one; 'Pf': what may have come with the next one; 'It': the iterator's own steps between rounds; 'Kp': what a round that goes on keeps for it. -/
def Iter (P : Program) {α : Type} (gf : Nat) (lb : Array Value) (enc : α → Array Value) (Kp It : World → World → Prop) (Pf : List α → Prop) (Dn : List α → World → Prop) (W : World) : Prop :=
  ∀ (l : Nat) (J Jx : List α → World → Prop),
    J [] W →
    (∀ xs A B, J xs A → It A B → J xs B) →
    (∀ xs x A, J xs A → Pf (xs ++ [x]) → YieldAt Fence.wide 1 P l (enc x) A fun e B => (e = .returned (.bool true) ∧ J (xs ++ [x]) B ∧ Kp A B) ∨ (e = .returned (.bool false) ∧ Jx (xs ++ [x]) B)) →
    Calls P gf (#[.func (.yield l) #[] #[]] ++ lb) W (IterPost J Dn Jx)

variable {P : Program}
theorem wp_rangeFunc_mine {α : Type} {g : Operand} {ps : Array Tmp} {assign body : Code} {Q : Exit → Act → World → Prop} {a : Act} {w : World}
    {gf : Nat} {lb : Array Value} (hg : a.eval g = .func (.func gf) #[] lb) (eg : ∀ args w, (callFunc gf args).run P w = .ok (.enter gf args) w)
    {enc : α → Array Value} {Kp It : World → World → Prop} {Pf : List α → Prop} {Dn : List α → World → Prop}
    (hps : ∀ x, (enc x).size = ps.size)
    (I : List α → World → Prop) (Ix : Code → List α → World → Prop)
    (hiter : ∀ o1 o2 : Obj, o1.isCells = false → o2.isCells = false → Iter P gf lb enc Kp It Pf Dn ((w.alloc o1).alloc o2))
    (hKt : ∀ {A B C : World}, Kp A B → Kp B C → Kp A C)
    (hKb : ∀ (W : World) (r : Nat) (o o' : Obj), w.heap.size ≤ r → W.heap[r]? = some o → o.isCells = false → Kp W (W.putObj r o'))
    (hIt : ∀ A B r o, It A B → w.heap.size ≤ r → r < w.heap.size + 2 → A.heap[r]? = some o → o.isCells = false → B.heap[r]? = some o)
    (hIi : ∀ xs A B, I xs A → It A B → I xs B)
    (hI : ∀ xs (W : World) (r : Nat) (o o' : Obj), I xs W → w.heap.size ≤ r → W.heap[r]? = some o → o.isCells = false → I xs (W.putObj r o'))
    (hIx : ∀ c xs (W : World) (r : Nat) (o o' : Obj), Ix c xs W → w.heap.size ≤ r → W.heap[r]? = some o → o.isCells = false → Ix c xs (W.putObj r o'))
    (hDn : ∀ xs (W : World) (r : Nat) (o o' : Obj), Dn xs W → w.heap.size ≤ r → W.heap[r]? = some o → o.isCells = false → Dn xs (W.putObj r o'))
    (h0 : ∀ o1 o2 : Obj, o1.isCells = false → o2.isCells = false → I [] ((w.alloc o1).alloc o2)) (a₁ : α → Act)
    (hassign : ∀ (l : Nat) (x : α) (W : World) (K : Act → World → Prop), K (a₁ x) W →
      assign.wpIn (Fence.wide.inRound l) 1 P (Exit.then K (fun _ _ _ => False)) { tmps := (ps.zip (enc x)).foldl (fun t (p, v) => t.setIfInBounds p v) a.tmps, defers := [] } W)
    (hbody : ∀ (l : Nat) (xs : List α) (x : α) (W : World), I xs W → Pf (xs ++ [x]) → w.heap.size + 2 ≤ W.heap.size → body.wpIn (Fence.wide.inRound l) 1 P (rngPost w.heap.size Kp I Ix (xs ++ [x]) W) (a₁ x) W)
    (hdone : ∀ (D : Nat) (xs : List α) (W : World), D = w.heap.size → Dn xs W → I xs W → W.heap[D]? = some (.deferred (some [])) → Q .normal { a with defers := { target := .collected D, args := #[] } :: a.defers } W)
    (hstop : ∀ (D : Nat) (c : Code) (xs : List α) (W : World), D = w.heap.size → Ix c xs W → W.heap[D]? = some (.deferred (some [])) → c.wpIn Fence.wide 3 P Q { a with defers := { target := .collected D, args := #[] } :: a.defers } W) :
    (Code.rangeFunc g ps assign body).wpIn Fence.wide 3 P Q a w := by
  refine wpIn_rangeFunc ?_
  intro fn hfn
  obtain ⟨rec, hrec⟩ : ∃ rec : LoopState → Option Code → Loop, rec = fun st pe => { state := st, pending := pe, fn, tmps := a.tmps, params := ps, assign, body, defers := w.heap.size } := ⟨_, rfl⟩
  obtain ⟨W1, hW1⟩ : ∃ W1, (w.alloc (.deferred (some []))).alloc (.loop (rec .ready none)) = W1 := ⟨_, rfl⟩
  have hL1 : W1.heap[w.heap.size + 1]? = some (.loop (rec .ready none)) := by
    rw [← hW1]; have := World.alloc_heap_new (w.alloc (.deferred (some []))) (.loop (rec .ready none)); rwa [World.size_alloc] at this
  have hK1 : W1.heap[w.heap.size]? = some (.deferred (some [])) := by
    rw [← hW1]; exact (Below.heap_alloc _ _ _ (by simp)).trans (World.alloc_heap_new w _)
  have hI1 : I [] W1 := by rw [← hW1]; exact h0 _ _ rfl rfl
  have hS : Iter P gf lb enc Kp It Pf Dn W1 := by rw [← hW1]; exact hiter _ _ rfl rfl
  refine ⟨w.heap.size + 1, [{ target := .collected w.heap.size, args := #[] }], W1, { target := .fn (.func gf) lb, args := #[.func (.yield (w.heap.size + 1)) #[] #[]] }, W1, gf,
    #[.func (.yield (w.heap.size + 1)) #[] #[]] ++ lb, W1, ?_, ?_, ?_, ?_, fun h => by simp [Fence.wide] at h, ?_⟩
  · rw [← hW1, hrec]; exact run_enterLoop_outer _ _ _ _ _
  · simp only [resolve, hg]
    simp [go_sem]
  · intro f' hf'; trivial
  · simp [invoke, go_sem, eg]
  · refine callsIn_wide.2 ?_
    refine (hS (w.heap.size + 1)
      (fun xs W => I xs W ∧ W.heap[w.heap.size + 1]? = some (.loop (rec .ready none)) ∧ W.heap[w.heap.size]? = some (.deferred (some [])))
      (fun xs W => ∃ c, Ix c xs W ∧ W.heap[w.heap.size + 1]? = some (.loop (rec .done (some c))) ∧ W.heap[w.heap.size]? = some (.deferred (some [])))
      ⟨hI1, hL1, hK1⟩
      (fun xs A B hs hit => ⟨hIi xs A B hs.1 hit, hIt A B _ _ hit (by omega) (by omega) hs.2.1 rfl, hIt A B _ _ hit (by omega) (by omega) hs.2.2 rfl⟩)
      ?_).mono ?_
    · rintro xs x W ⟨hi, hl, hk⟩ hpf
      have hlt : w.heap.size + 1 < W.heap.size := (Array.getElem?_eq_some_iff.1 hl).1
      have hy := run_yield (P := P) (args := enc x) hl (by rw [hrec]; exact hps x)
      rw [hrec] at hy
      refine ⟨fn, _, assign, body, hy, roundIn_of_wpIn hfn (hassign _ x W _ ⟨_, run_beginRound hl (by rw [hrec]), ?_⟩)⟩
      have hl2 : (W.putObj (w.heap.size + 1) (.loop { rec .ready none with state := .busy })).heap[w.heap.size + 1]? = some (.loop { rec .ready none with state := .busy }) := World.putObj_heap_same hlt
      have hk2 : (W.putObj (w.heap.size + 1) (.loop { rec .ready none with state := .busy })).heap[w.heap.size]? = some (.deferred (some [])) := (World.putObj_heap_other (by omega)).trans hk
      have hw2 : Kp W (W.putObj (w.heap.size + 1) (.loop { rec .ready none with state := .busy })) := hKb _ _ _ _ (by omega) hl rfl
      refine wpIn_mono (hbody _ xs x _ (hI _ _ _ _ _ hi (by omega) hl rfl) hpf (by simp; omega)) ?_
      have fin : ∀ (jump : Option Code) (W3 : World), KeepsNC w.heap.size (W.putObj (w.heap.size + 1) (.loop { rec .ready none with state := .busy })) W3 →
          (Instr.endRound (w.heap.size + 1) jump).run P W3 = .ok (.bool jump.isNone) (W3.putObj (w.heap.size + 1) (.loop (rec (if jump.isNone then .ready else .done) jump))) ∧
          W3.heap[w.heap.size + 1]? = some (.loop { rec .ready none with state := .busy }) ∧
          (W3.putObj (w.heap.size + 1) (.loop (rec (if jump.isNone then .ready else .done) jump))).heap[w.heap.size + 1]? = some (.loop (rec (if jump.isNone then .ready else .done) jump)) ∧
          (W3.putObj (w.heap.size + 1) (.loop (rec (if jump.isNone then .ready else .done) jump))).heap[w.heap.size]? = some (.deferred (some [])) := fun jump W3 hk3 => by
        have hl3 := hk3 _ _ (by omega) hl2 rfl
        have := run_endRound (P := P) jump hl3
        rw [hrec] at this ⊢
        exact ⟨this, by rw [hrec] at hl3; exact hl3, World.putObj_heap_same (Array.getElem?_eq_some_iff.1 hl3).1, (World.putObj_heap_other (by omega)).trans (hk3 _ _ (by omega) hk2 rfl)⟩
      rintro e a3 W3 hp
      cases e with
      | normal =>
        obtain ⟨hk3, hkp3, hi3⟩ := hp
        obtain ⟨hr, hl3, hl4, hk4⟩ := fin none W3 hk3
        exact ⟨_, _, hr, .inl ⟨rfl, ⟨hI _ _ _ _ _ hi3 (by omega) hl3 rfl, hl4, hk4⟩, hKt (hKt hw2 hkp3) (hKb _ _ _ _ (by omega) hl3 rfl)⟩⟩
      | ret =>
        obtain ⟨hk3, hi3⟩ := hp
        obtain ⟨hr, hl3, hl4, hk4⟩ := fin (some .ret) W3 hk3
        exact ⟨_, _, hr, .inr ⟨rfl, .ret, hIx _ _ _ _ _ _ hi3 (by omega) hl3 rfl, hl4, hk4⟩⟩
      | exit id =>
        obtain ⟨hk3, hi3⟩ := hp
        obtain ⟨hr, hl3, hl4, hk4⟩ := fin (some (.exit id)) W3 hk3
        exact ⟨_, _, hr, .inr ⟨rfl, .exit id, hIx _ _ _ _ _ _ hi3 (by omega) hl3 rfl, hl4, hk4⟩⟩
      | goto t =>
        obtain ⟨hk3, hi3⟩ := hp
        obtain ⟨hr, hl3, hl4, hk4⟩ := fin (some (.goto t)) W3 hk3
        exact ⟨_, _, hr, .inr ⟨rfl, .goto t, hIx _ _ _ _ _ _ hi3 (by omega) hl3 rfl, hl4, hk4⟩⟩
      | panic ch => exact hp.elim
      | outgrown => exact hp.elim
    · rintro e W2 ⟨⟨v, rfl⟩, (⟨xs, ⟨hi, hl, hk⟩, hd⟩ | ⟨xs, c, hi, hl, hk⟩)⟩
      · exact ⟨none, _, by have := run_endLoop (P := P) hl (by rw [hrec]; simp); rw [hrec] at this; exact this, hdone _ xs _ rfl (hDn _ _ _ _ _ hd (by omega) hl rfl) (hI _ _ _ _ _ hi (by omega) hl rfl) ((World.putObj_heap_other (by omega)).trans hk)⟩
      · exact ⟨some c, _, by have := run_endLoop (P := P) hl (by rw [hrec]; simp); rw [hrec] at this; exact this, hstop _ c xs _ rfl (hIx _ _ _ _ _ _ hi (by omega) hl rfl) ((World.putObj_heap_other (by omega)).trans hk)⟩
end Go.Proofs.Ytihfapnipifiiaa
/- Small facts on worlds. -/
namespace Go.Proofs.Ytihfapnipifiiaa
open Go Go.RowKit

theorem cell_set_ne {w : World} {a b : Addr} {v : Value} (h : b.block ≠ a.block) : (w.setCell a v).cell? b = w.cell? b :=
  World.cell?_of_block (Below.heap_setCell w a v _ h)
theorem frozen_set {w : World} {a b : Addr} {v : Value} : (w.setCell a v).frozen? b = w.frozen? b := by rw [World.frozen?_setCell]
theorem cell_set_same {w : World} {a : Addr} {v u : Value} (h : w.cell? a = some u) : (w.setCell a v).cell? a = some v :=
  World.cell?_setCell_same' _ _ _ (by rw [h]; rfl)
theorem bcell {W w1 : World} (hb : Below W.heap.size W w1) : (∀ b o, b < W.heap.size → w1.cell? ⟨b, o, none⟩ = W.cell? ⟨b, o, none⟩) ∧ (∀ b o, b < W.heap.size → w1.frozen? ⟨b, o, none⟩ = W.frozen? ⟨b, o, none⟩) :=
  ⟨fun b o h => hb.cell (p := ⟨b, o, none⟩) h, fun b o h => hb.frozen (p := ⟨b, o, none⟩) h⟩
theorem blk_of_cell {w : World} {a : Addr} {v : Value} (h : w.cell? a = some v) : a.block < w.heap.size := World.block_lt_of_cell? w a h
theorem own_cells {w : World} {base : Nat} {e : TypeId} {size n : Nat} {v : Value} {xs : List Value} (h : w.ownsRow base e size v n xs) (k : Nat) (hk : v.ownBlock = some k) :
    base ≤ k ∧ ∃ cur, w.heap[k]? = some (.cells cur e (0, 0)) := by
  rcases h.2 with ⟨rfl, _⟩ | ⟨g, cap, cur, rfl, hb, hh, _⟩
  · simp [Value.ownBlock] at hk
  · have : g = k := by simpa [Value.ownBlock] using hk
    subst this; exact ⟨hb, cur, hh⟩
theorem own_ne {w : World} {base : Nat} {e : TypeId} {size n : Nat} {v : Value} {xs : List Value} (h : w.ownsRow base e size v n xs) (b : Nat) (hb : b < base) : v.ownBlock = none ∨ v.ownBlock ≠ some b := by
  by_cases hk : v.ownBlock = some b
  · have := (own_cells h b hk).1; omega
  · exact .inr hk
/-- What a store of a block below the row's base leaves of it. -/
theorem own_set {w : World} {base : Nat} {e : TypeId} {size n : Nat} {v : Value} {xs : List Value} (h : w.ownsRow base e size v n xs) {a : Addr} (ha : a.block < base) (u : Value) : (w.setCell a u).ownsRow base e size v n xs := ownsRow_setCell_below h ha u
theorem own_below {w w1 : World} {base : Nat} {e : TypeId} {size n : Nat} {v : Value} {xs : List Value} (h : w.ownsRow base e size v n xs) (hb : Below w.heap.size w w1) : w1.ownsRow base e size v n xs :=
  h.kept (row := none) ⟨hb.os, hb.tape, hb.output, hb.size, fun i hi _ => hb.block i hi⟩ (by cases v.ownBlock <;> simp)
/-- A cell that is not of the row that may have been written. -/
theorem grown_cell {w w' : World} {row : Option Nat} (hg : w.grownBy w' row) {a : Addr} {v : Value} (h : w.cell? a = some v) (hr : row ≠ some a.block) : w'.cell? a = some v ∧ w'.frozen? a = w.frozen? a := by
  have e := hg.block a.block (blk_of_cell h) (fun e => hr e.symm)
  exact ⟨(World.cell?_of_block e).trans h, World.frozen?_of_block e⟩
theorem putObj_cell {w : World} {r : Nat} {o o' : Obj} (h : w.heap[r]? = some o) (hc : o.isCells = false) (a : Addr) {v : Value} (ha : w.cell? a = some v) : (w.putObj r o').cell? a = some v ∧ (w.putObj r o').frozen? a = w.frozen? a := by
  have hne : a.block ≠ r := by
    intro e
    rw [← e] at h
    unfold World.cell? at ha; rw [h] at ha
    cases o <;> simp_all [Obj.isCells]
  have e := World.putObj_heap_other (w := w) (o := o') hne
  exact ⟨(World.cell?_of_block e).trans ha, World.frozen?_of_block e⟩
theorem putObj_own {w : World} {r : Nat} {o o' : Obj} {base : Nat} {e : TypeId} {size n : Nat} {v : Value} {xs : List Value} (h : w.heap[r]? = some o) (hc : o.isCells = false) (hown : w.ownsRow base e size v n xs) : (w.putObj r o').ownsRow base e size v n xs := by
  refine hown.kept (row := some r) (grownBy_putObj' w r o') ?_
  by_cases hk : v.ownBlock = some r
  · obtain ⟨_, cur, hh⟩ := own_cells hown r hk
    rw [hh] at h; cases h; simp [Obj.isCells] at hc
  · exact .inr hk
theorem putObj_below {B : Nat} {w W : World} {r : Nat} {o' : Obj} (hb : Below B w W) (hB : B ≤ r) : Below B w (W.putObj r o') :=
  hb.trans ⟨rfl, rfl, rfl, by simp, fun k hk => World.putObj_heap_other (by omega)⟩
theorem keepsNC_grown {B : Nat} {w w' : World} {row : Option Nat} (hg : w.grownBy w' row) (hr : ∀ k, row = some k → ∃ c e f, w.heap[k]? = some (.cells c e f)) : KeepsNC B w w' := by
  intro r o _ ho hc
  have hlt : r < w.heap.size := (Array.getElem?_eq_some_iff.1 ho).1
  rw [hg.block r hlt ?_]; · exact ho
  intro e
  obtain ⟨c, e', f, h⟩ := hr r e.symm
  rw [ho] at h; cases h; simp [Obj.isCells] at hc
theorem keepsNC_alloc (B : Nat) (w : World) (o : Obj) : KeepsNC B w (w.alloc o) := fun r o' _ ho _ => (Below.heap_alloc w o r (Array.getElem?_eq_some_iff.1 ho).1).trans ho
theorem keepsNC_set (B : Nat) (w : World) (a : Addr) (v : Value) : KeepsNC B w (w.setCell a v) := KeepsNC.of_others (KeepsOthers.setCell _ _ _)
theorem alloc_cell {w : World} {a : Addr} {v : Value} (h : w.cell? a = some v) (o : Obj) : (w.alloc o).cell? a = some v ∧ (w.alloc o).frozen? a = w.frozen? a := by
  have e := Below.heap_alloc w o a.block (blk_of_cell h)
  exact ⟨(World.cell?_of_block e).trans h, World.frozen?_of_block e⟩
theorem toList_bs (l : List UInt8) : (bs l).toList = l := by rw [ByteArray.toList_eq]; exact lst_bs l
theorem toList_lst (s : ByteArray) : s.toList = lst s := ByteArray.toList_eq s
end Go.Proofs.Ytihfapnipifiiaa
/- The walks of package name: each, Labels, Check, Depth. -/
namespace Go.Proofs.Ytihfapnipifiiaa
open Go Go.RowKit
attribute [local go_sem] Oper.semAt_some

theorem info_string : (Try.prog.info? 9).map (fun i => (i.zero, i.size, i.bytes)) = some (some (.string ⟨#[]⟩), 1, 16) := by kernel_rfl
theorem lst_get (s : ByteArray) (k : Nat) (h : k < s.size) : (lst s)[k]? = some s[k] := by
  rw [List.getElem?_eq_getElem (by rw [lst_length]; exact h)]; rfl
theorem extract_bs (s : ByteArray) (a b : Nat) : s.extract a b = bs (((lst s).drop a).take (b - a)) := by
  apply lst_inj; rw [lst_bs]; unfold lst; rw [Lib.extract_data]

/-- Some cells read as they did. -/
def KeepC (S : Addr → Prop) (A B : World) : Prop := ∀ a, S a → B.cell? a = A.cell? a ∧ B.frozen? a = A.frozen? a
theorem KeepC.trans {S : Addr → Prop} {A B C : World} (h : KeepC S A B) (k : KeepC S B C) : KeepC S A C := fun a ha => ⟨(k a ha).1.trans (h a ha).1, (k a ha).2.trans (h a ha).2⟩

/-- The iterator that 'each' makes: it goes over the labels; its last step is to tell where the row ends. -/
def EachKp (nb eb : Nat) (ep : Addr) : World → World → Prop := KeepC (fun a => a = ⟨nb, 0, none⟩ ∨ a = ⟨eb, 0, none⟩ ∨ a = ep)
def EachIt (ep : Addr) (A B : World) : Prop := ∃ v : Int, (∃ u : Int, A.cell? ep = some (.int .i64 u)) ∧ B = A.setCell ep (.int .i64 v)
def EachPf (s : ByteArray) (xs : List (Nat × Nat)) : Prop := xs <+: (scan (lst s) 0).1
def EachDn (s : ByteArray) (ep : Addr) (xs : List (Nat × Nat)) (W : World) : Prop := xs = (scan (lst s) 0).1 ∧ W.cell? ep = some (.int .i64 (scan (lst s) 0).2)
def eachEnc (s : ByteArray) (x : Nat × Nat) : Array Value := #[.int .i64 x.1, .string (s.extract (x.1 + 1) (x.1 + 1 + x.2))]

def EachRel (s : ByteArray) (nb eb : Nat) (ep : Addr) (J : List (Nat × Nat) → World → Prop) (k : Nat) (wr : World) : Prop :=
  ∃ xs : List (Nat × Nat), J xs wr ∧ (scan (lst s) 0).1 = xs ++ (scan ((lst s).drop k) k).1 ∧ (scan (lst s) 0).2 = (scan ((lst s).drop k) k).2 ∧
    wr.cell? ⟨nb, 0, none⟩ = some (.string s) ∧ wr.cell? ⟨eb, 0, none⟩ = some (.pointer (some ep)) ∧ wr.cell? ep = some (.int .i64 (-1)) ∧ wr.frozen? ep = false

set_option maxRecDepth 100000 in
set_option maxHeartbeats 1000000 in
theorem each_iter (s : ByteArray) (nb eb : Nat) (ep : Addr) (W : World) (hs : s.size ≤ 1099511627776)
    (hn : W.cell? ⟨nb, 0, none⟩ = some (.string s)) (he : W.cell? ⟨eb, 0, none⟩ = some (.pointer (some ep))) (u0 : Int) (hp : W.cell? ep = some (.int .i64 u0)) (hf : W.frozen? ep = false)
    (d1 : nb ≠ ep.block) (d2 : eb ≠ ep.block) :
    Iter Try.prog 119 #[.pointer (some ⟨eb, 0, none⟩), .pointer (some ⟨nb, 0, none⟩)] (eachEnc s) (EachKp nb eb ep) (EachIt ep) (EachPf s) (EachDn s ep) W := by
  intro l J Jx hJ0 hIt hY
  refine (callsIn_wide (n := 2)).1 ?_
  have HJ0 := Lib.hid (hIt _ _ _ hJ0 ⟨-1, ⟨u0, hp⟩, rfl⟩)
  clear hJ0
  refine callsIn_of_wp Try.func119 rfl trivial ?_
  simp only [Try.ntmps119, List.size_toArray, List.length_cons, List.length_nil, Nat.reduceAdd, Nat.reduceSub, Array.replicate_succ, Array.replicate_zero, List.push_toArray, List.append_toArray, List.nil_append, List.cons_append]
  gi_wp2
  gi_loopw [4] (fun at_ wr => ∃ k : Nat, at_ = .int .i64 k ∧ k ≤ s.size ∧ EachRel s nb eb ep J k wr) (fun i _ => s.size - (intOf i).toNat)
  case atStart =>
    refine ⟨0, rfl, Nat.zero_le _, [], HJ0.out, by simp, by simp, ?_, ?_, ?_, ?_⟩
    · exact (cell_set_ne d1).trans hn
    · exact (cell_set_ne d2).trans he
    · exact World.cell?_setCell_same' _ _ _ (by rw [hp]; rfl)
    · rw [World.frozen?_setCell]; exact hf
  case round =>
    obtain ⟨k, rfl, hk, xs, hJ, hs1, hs2, hn', he', hp', hf'⟩ := hrel
    have Hs1 := Lib.hid hs1
    have Hs2 := Lib.hid hs2
    clear hs1 hs2 hp hn he hf
    have hget : (lst s).length = s.size := lst_length s
    by_cases hlt : k < s.size
    · obtain ⟨c, hcv⟩ : ∃ c, s[k].toNat = c := ⟨_, rfl⟩
      have hc255 : c ≤ 255 := by have := s[k].toNat_lt; omega
      have Hget := Lib.hid (lst_get s k hlt)
      by_cases hc0 : c = 0
      · have h0 : ((c : Int) != 0) = false := by simp [hc0]
        have HS : Hid (scan ((lst s).drop k) k = ([], (k : Int))) := Lib.hid (scan_zero (by rw [Hget.out]; congr 1; exact UInt8.toNat_inj.1 (by rw [hcv, hc0]; rfl)))
        clear hc0
        gi_wp2
        go_end0
        exact IterPost.done (xs := xs) (hIt _ _ _ hJ ⟨k, ⟨-1, hp'⟩, rfl⟩) ⟨by rw [Hs1.out, HS.out]; simp, by rw [Hs2.out, HS.out]; exact cell_set_same hp'⟩
      · have h0 : ((c : Int) != 0) = true := by simp [hc0]
        have Hc0 : Hid (s[k] ≠ 0) := Lib.hid (fun h => hc0 (by rw [← hcv, h]; rfl))
        clear hc0
        by_cases h63 : c ≤ 63
        · by_cases hroom : k + 1 + c ≤ s.size
          · have HS := Lib.hid (scan_step Hget.out Hc0.out (by omega) (by omega))
            rw [hcv] at HS
            have hpf : EachPf s (xs ++ [(k, c)]) := by
              unfold EachPf; rw [Hs1.out, HS.out]; exact ⟨(scan (List.drop (k + 1 + c) (lst s)) (k + 1 + c)).1, by simp⟩
            obtain ⟨fn, tmps, assign, body, hy, hR⟩ := hY xs (k, c) wr hJ hpf
            simp only [eachEnc] at hy
            gi_wp2
            refine hR.mono ?_
            rintro e W' (⟨rfl, hJ', hkp⟩ | ⟨rfl, hJx'⟩)
            · gi_wp2
              go_roundw
              case rel => exact ⟨k + 1 + c, by go_num, by omega, xs ++ [(k, c)], hJ', by rw [Hs1.out, HS.out]; simp, by rw [Hs2.out, HS.out], (hkp _ (.inl rfl)).1.trans hn', (hkp _ (.inr (.inl rfl))).1.trans he', (hkp _ (.inr (.inr rfl))).1.trans hp', (hkp _ (.inr (.inr rfl))).2.trans hf'⟩
              case measure => simp [intOf]; omega
            · gi_wp2
              go_end0
              exact IterPost.stop hJx'
          · have HS := Lib.hid (scan_bad Hget.out Hc0.out (.inr (by omega)))
            gi_wp2
            refine ⟨fun _ h => (by cases h), ?_⟩
            gi_wp2
            go_end0
            exact IterPost.done (xs := xs) hJ ⟨by rw [Hs1.out, HS.out]; simp, by rw [Hs2.out, HS.out]; exact hp'⟩
        · have HS := Lib.hid (scan_bad Hget.out Hc0.out (.inl (by omega)))
          gi_wp2
          refine ⟨fun _ h => (by cases h), ?_⟩
          gi_wp2
          go_end0
          exact IterPost.done (xs := xs) hJ ⟨by rw [Hs1.out, HS.out]; simp, by rw [Hs2.out, HS.out]; exact hp'⟩
    · have HS := Lib.hid (scan_end (l := lst s) (k := k) (by omega))
      gi_wp2
      go_end0
      exact IterPost.done (xs := xs) (hIt _ _ _ hJ ⟨k, ⟨-1, hp'⟩, rfl⟩) ⟨by rw [Hs1.out, HS.out]; simp, by rw [Hs2.out, HS.out]; exact cell_set_same hp'⟩
end Go.Proofs.Ytihfapnipifiiaa
/- The walks of package name: each, Labels, Check, Depth. -/
namespace Go.Proofs.Ytihfapnipifiiaa
open Go Go.RowKit Go.Shelf
attribute [local go_sem] Oper.semAt_some

set_option maxRecDepth 100000 in
theorem each_any (s : ByteArray) (ep : Addr) (w : World) :
    Calls Try.prog 107 #[.string s, .pointer (some ep)] w fun e w' => e = .returned (.func (.func 119) #[] #[.pointer (some ⟨w.heap.size + 1, 0, none⟩), .pointer (some ⟨w.heap.size, 0, none⟩)]) ∧
      (w.alloc (.cells #[.string s] 9)).alloc (.cells #[.pointer (some ep)] 167) = w' := by
  go_enter Try.func107, Try.ntmps107
  go_wp2
  go_ret
  exact ⟨rfl, rfl⟩

/-- A row of strings of the call's own. -/
def Strs (w : World) (B : Nat) (v : Value) (ls : List (List UInt8)) : Prop := w.ownsRow B 9 1 v ls.length (ls.map fun l => Value.string (bs l))

/-- What Labels hands back. -/
def LabPost (s : ByteArray) (w : World) (e : Ending) (w' : World) : Prop :=
  ∃ v ls, e = .returned (.tuple #[v, .int .i64 (chk (lst s))]) ∧ Below w.heap.size w w' ∧ Strs w' w.heap.size v ls ∧ (chk (lst s) = 0 → lab (lst s) = some ls) ∧ (chk (lst s) ≠ 0 → ls = [])

def labOf (s : ByteArray) (x : Nat × Nat) : List UInt8 := ((lst s).drop (x.1 + 1)).take x.2
theorem labOf_extract (s : ByteArray) (x : Nat × Nat) : s.extract (x.1 + 1) (x.1 + 1 + x.2) = bs (labOf s x) := by
  rw [extract_bs]; unfold labOf; congr 2; omega

/-- Between two rounds of Labels. -/
def LabI (s : ByteArray) (w : World) (xs : List (Nat × Nat)) (W : World) : Prop :=
  ∃ v, W.cell? ⟨w.heap.size, 0, none⟩ = some v ∧ W.frozen? ⟨w.heap.size, 0, none⟩ = false ∧ Strs W (w.heap.size + 4) v (xs.map (labOf s)) ∧ Below w.heap.size w W
theorem LabI.putObj {s : ByteArray} {w : World} {xs : List (Nat × Nat)} {W : World} {r : Nat} {o o' : Obj} (h : LabI s w xs W) (hr : w.heap.size ≤ r) (ho : W.heap[r]? = some o) (hc : o.isCells = false) : LabI s w xs (W.putObj r o') := by
  obtain ⟨v, h1, h2, h3, h4⟩ := h
  exact ⟨v, (putObj_cell ho hc _ h1).1, (putObj_cell ho hc _ h1).2.trans h2, putObj_own ho hc h3, putObj_below h4 hr⟩
theorem Strs.set {w : World} {B : Nat} {v : Value} {ls : List (List UInt8)} (h : Strs w B v ls) {a : Addr} (ha : a.block < B) (u : Value) : Strs (w.setCell a u) B v ls := own_set h ha u
theorem Strs.below {w w1 : World} {B : Nat} {v : Value} {ls : List (List UInt8)} (h : Strs w B v ls) (hb : Below w.heap.size w w1) : Strs w1 B v ls := own_below h hb
theorem Strs.mono {w : World} {B B' : Nat} {v : Value} {ls : List (List UInt8)} (h : Strs w B v ls) (hB : B' ≤ B) : Strs w B' v ls := by
  refine ⟨h.1, h.2.imp id ?_⟩
  rintro ⟨g, cap, cur, e, hg, r⟩
  exact ⟨g, cap, cur, e, by omega, r⟩
theorem Strs.shape {w : World} {B : Nat} {v : Value} {ls : List (List UInt8)} (h : Strs w B v ls) : ∃ A cap, v = .slice A ls.length cap := by
  rcases h.2 with ⟨rfl, hn⟩ | ⟨g, cap, cur, rfl, _⟩
  · exact ⟨none, 0, by rw [hn]⟩
  · exact ⟨_, _, rfl⟩
theorem Strs.nil (w : World) (B : Nat) : Strs w B (.slice none 0 0) [] := World.ownsRow_nil _ _ _ _

set_option maxRecDepth 100000 in
set_option maxHeartbeats 1000000 in
theorem labels_any (s : ByteArray) (w : World) (hs : s.size ≤ 1099511627776) :
    Calls Try.prog 90 #[.string s] w (LabPost s w) := by
  obtain ⟨i0, hi, hz0, hz1, hz2⟩ := info_parts info_string
  refine (callsIn_wide (n := 3)).1 ?_
  refine callsIn_of_wp_marks Try.func90 rfl trivial ?_
  simp only [Try.ntmps90, List.size_toArray, List.length_cons, List.length_nil, Nat.reduceAdd, Nat.reduceSub, Array.replicate_succ, Array.replicate_zero, List.push_toArray, List.append_toArray, List.nil_append, List.cons_append]
  gi_wp2_with (refine ⟨trivial, ?_⟩; gi_at_call 107; refine (callsIn_wide.2 (each_any _ _ _)).mono ?_; rintro e w' ⟨rfl, rfl⟩)
  have hlen : (lst s).length = s.size := lst_length s
  have Hlen := Lib.hid hlen
  clear hlen
  generalize hW0 : (((w.alloc (Obj.cells #[Value.slice none 0 0] 47)).alloc (Obj.cells #[Value.int IntKind.i64 0] 3)).alloc (Obj.cells #[Value.string s] 9)).alloc (Obj.cells #[Value.pointer (some { block := w.heap.size + 1, off := 0 })] 167) = W0
  have f0 : W0.heap.size = w.heap.size + 4 := by rw [← hW0]; simp
  have f1 : W0.cell? ⟨w.heap.size, 0, none⟩ = some (.slice none 0 0) ∧ W0.frozen? ⟨w.heap.size, 0, none⟩ = false := by subst hW0; exact ⟨by go_simp, by go_simp⟩
  have f2 : W0.cell? ⟨w.heap.size + 1, 0, none⟩ = some (.int .i64 0) ∧ W0.frozen? ⟨w.heap.size + 1, 0, none⟩ = false := by subst hW0; exact ⟨by go_simp, by go_simp⟩
  have f3 : W0.cell? ⟨w.heap.size + 1 + 1, 0, none⟩ = some (.string s) := by subst hW0; go_simp
  have f4 : W0.cell? ⟨w.heap.size + 1 + 1 + 1, 0, none⟩ = some (.pointer (some ⟨w.heap.size + 1, 0, none⟩)) := by subst hW0; go_simp
  have f5 : Below w.heap.size w W0 := by rw [← hW0]; exact ((((Below.refl _ w).alloc (Nat.le_refl _) _).alloc (by simp) _).alloc (by simp; omega) _).alloc (by simp; omega) _
  clear hW0
  have two : ∀ (o1 o2 : Obj), Below W0.heap.size W0 ((W0.alloc o1).alloc o2) := fun o1 o2 => ((Below.refl _ W0).alloc (Nat.le_refl _) _).alloc (by simp) _
  refine wp_rangeFunc_mine (gf := 119) (lb := #[.pointer (some ⟨w.heap.size + 1 + 1 + 1, 0, none⟩), .pointer (some ⟨w.heap.size + 1 + 1, 0, none⟩)]) rfl (enters_of Try.func119 (by kernel_rfl) rfl)
    (enc := eachEnc s) (Kp := EachKp (w.heap.size + 1 + 1) (w.heap.size + 1 + 1 + 1) ⟨w.heap.size + 1, 0, none⟩) (It := EachIt ⟨w.heap.size + 1, 0, none⟩) (Pf := EachPf s) (Dn := EachDn s ⟨w.heap.size + 1, 0, none⟩)
    (fun _ => rfl) (LabI s w) (fun _ _ _ => False) ?iter KeepC.trans ?kb ?it ?ii (fun _ _ _ _ _ h hr ho hc => h.putObj (by omega) ho hc) (fun _ _ _ _ _ _ h _ _ _ => h.elim) ?dn ?h0
    (fun x => { tmps := #[Value.string s, undef, Value.slice none 0 0, Value.int IntKind.i64 0, Value.pointer (some { block := w.heap.size, off := 0 }), Value.pointer (some { block := w.heap.size + 1, off := 0 }), undef, .string (s.extract (x.1 + 1) (x.1 + 1 + x.2)), Value.string s,
          Value.func (Fn.func 119) #[] #[Value.pointer (some { block := w.heap.size + 1 + 1 + 1, off := 0 }), Value.pointer (some { block := w.heap.size + 1 + 1, off := 0 })],
          .int .i64 x.1, .string (s.extract (x.1 + 1) (x.1 + 1 + x.2)), undef, undef, undef, undef, undef, undef, undef, undef, undef, undef, undef, undef, undef, undef, undef, undef, undef, undef, undef], defers := [] }) ?assign ?body ?done ?stop
  case iter =>
    intro o1 o2 _ _
    have b := two o1 o2
    exact each_iter s _ _ _ _ hs ((b.cell (by simp; omega)).trans f3) ((b.cell (by simp; omega)).trans f4) 0 ((b.cell (by simp; omega)).trans f2.1) ((b.frozen (by simp; omega)).trans f2.2) (by simp <;> omega) (by simp <;> omega)
  case kb =>
    intro W r o o' hr ho hc a ha
    have hne : a.block ≠ r := by
      have : a.block < w.heap.size + 4 := by rcases ha with h | h | h <;> rw [h] <;> simp <;> omega
      omega
    have e := World.putObj_heap_other (w := W) (o := o') hne
    exact ⟨World.cell?_of_block e, World.frozen?_of_block e⟩
  case it =>
    rintro A B r o ⟨v, _, rfl⟩ hr hr2 ho hc
    exact (Below.heap_setCell _ _ _ _ (by simp; omega)).trans ho
  case ii =>
    rintro xs A B ⟨v, h1, h2, h3, h4⟩ ⟨u, _, rfl⟩
    exact ⟨v, (cell_set_ne (by simp)).trans h1, frozen_set.trans h2, h3.set (by simp) _, h4.setCell (by simp) _⟩
  case dn =>
    rintro xs W r o o' ⟨h1, h2⟩ hr ho hc
    exact ⟨h1, (putObj_cell ho hc _ h2).1⟩
  case h0 =>
    intro o1 o2 _ _
    have b := two o1 o2
    exact ⟨_, (b.cell (by simp; omega)).trans f1.1, (b.frozen (by simp; omega)).trans f1.2, Strs.nil _ _, f5.trans (b.mono (by omega))⟩
  case assign =>
    intro l x W K hK
    simp only [eachEnc]
    gi_wp2
    exact hK
  case body =>
    rintro l xs x W ⟨v, hc, hf, hown, hB⟩ hpf hsz
    unfold Strs at hown
    have hle : xs.length + 1 ≤ 1099511627776 := by
      have h1 := hpf.length_le
      have h2 := (scan_le (lst s)).2.2
      have := Hlen.out
      simp only [List.length_append, List.length_cons, List.length_nil] at h1
      omega
    have Hown := Lib.hid hown
    clear hpf
    gi_wp2_with (gi_at_builtin; refine wpListIn_append_own _ rfl _ _ 47 rfl (w.heap.size + 4) 9 i0 (.string ⟨#[]⟩) 1 16 Try.underlying47 hi hz0 hz1 hz2 rfl (by decide) _ _ _ rfl (Hown.out.alloc _) ⟨W.heap.size, 0, none⟩ 1 1 [.string (s.extract (x.1 + 1) (x.1 + 1 + x.2))] rfl rfl (cell_one_new _ _ _) ?c2 ?c3 ?c4 ?c5 ?_)
    case c2 => intro u hu; simp only [List.mem_singleton] at hu; subst hu; rfl
    case c3 => simp only [List.length_map, maxLen]; omega
    case c4 => simp only [List.length_map]; omega
    case c5 => simp; have := hB.size; omega
    intro v' w1 hown1 hgrow1 _
    obtain ⟨g', cap', rfl⟩ := ownsRow_succ hown1
    have hne : v.ownBlock ≠ some w.heap.size := by
      rcases own_ne Hown.out w.heap.size (by omega) with h | h
      · rw [h]; simp
      · exact h
    have hc1 := (grown_cell hgrow1 (alloc_cell hc _).1 hne).1
    have hf1 := (grown_cell hgrow1 (alloc_cell hc _).1 hne).2.trans ((alloc_cell hc _).2.trans hf)
    have Hown1 := Lib.hid hown1
    have Hgrow1 := Lib.hid hgrow1
    clear hown1 hgrow1
    gi_wp2
    have hown1 := Hown1.out
    have hgrow1 := Hgrow1.out
    have hnc : ∀ k, v.ownBlock = some k → ∃ c e f, (W.alloc (Obj.cells #[Value.string (s.extract (x.1 + 1) (x.1 + 1 + x.2))] 9)).heap[k]? = some (.cells c e f) := by
      intro k hk
      obtain ⟨_, cur, h⟩ := own_cells (Hown.out.alloc (.cells #[Value.string (s.extract (x.1 + 1) (x.1 + 1 + x.2))] 9)) k hk
      exact ⟨_, _, _, h⟩
    refine ⟨((keepsNC_alloc _ _ _).trans (keepsNC_grown hgrow1 hnc)).trans (keepsNC_set _ _ _ _), ?_, ?_⟩
    · intro a ha
      have hlo : w.heap.size < a.block ∧ a.block < w.heap.size + 4 := by rcases ha with h | h | h <;> rw [h] <;> simp <;> omega
      have e1 := Below.heap_alloc W (Obj.cells #[Value.string (s.extract (x.1 + 1) (x.1 + 1 + x.2))] 9) a.block (by omega)
      have e2 := hgrow1.block a.block (by simp; omega) (by
        rcases own_ne Hown.out a.block (by omega) with h | h
        · rw [h]; simp
        · exact fun e => h e.symm)
      have e := fun u => (Below.heap_setCell w1 ⟨w.heap.size, 0, none⟩ u a.block (by simp; omega)).trans (e2.trans e1)
      exact ⟨World.cell?_of_block (e _), World.frozen?_of_block (e _)⟩
    · refine ⟨_, cell_set_same hc1, frozen_set.trans hf1, ?_, ?_⟩
      · refine Strs.set ?_ (by simp) _
        unfold Strs
        rw [List.map_append, List.map_append, List.map_cons, List.map_nil, List.map_cons, List.map_nil, List.length_append, List.length_cons, List.length_nil, ← labOf_extract]
        simp only [List.length_map, List.map_map, Nat.zero_add] at hown1 ⊢
        exact hown1
      · refine Below.setCell ?_ (by simp) _
        exact (hB.alloc (by have := hB.size; omega) _).grown hgrow1 (by simp; have := hB.size; omega) (fun k hk => by have := (own_cells Hown.out k hk).1; omega)
  case done =>
    rintro D xs W rfl ⟨rfl, hend⟩ ⟨v, h1, h2, h3, h4⟩ hD
    have hD' := hD
    rw [f0] at hD'
    obtain ⟨E, HE⟩ : ∃ E, Hid ((scan (lst s) 0).2 = E) := ⟨_, rfl⟩
    rw [HE.out] at hend
    have hE1 : -1 ≤ E := by have := (scan_le (lst s)).1; rw [HE.out] at this; exact this
    have hE2 : E ≤ s.size := by have := (scan_le (lst s)).2.1; rw [HE.out, Hlen.out] at this; exact this
    have Hlab := Lib.hid (lab_of_scan (lst s))
    rw [HE.out, Hlen.out] at Hlab
    by_cases ha : E = (s.size : Int) - 1
    · have hb : (E != (s.size : Int) - 1) = false := by rw [ha]; simp
      have Ha := Lib.hid ha
      clear ha
      by_cases hneg : E < 0
      · gi_wp2
        refine ⟨by simp, .inl ⟨_, _, rfl, run_takeDeferred (by first | exact hD | exact hD'), ?_⟩⟩
        refine ⟨_, results_tmp2 rfl _ _ _, ?_⟩
        have hchk : chk (lst s) = 10 := by
          exact chk_none (by rw [Hlab.out, if_neg (by rintro ⟨_, h⟩; omega)])
        exact ⟨_, [], by rw [hchk]; rfl, putObj_below h4 (by omega), Strs.nil _ _, fun h => (by rw [hchk] at h; cases h), fun _ => rfl⟩
      · have hpos : 0 ≤ E := by omega
        by_cases hbig : 255 < s.size
        · gi_wp2
          refine ⟨by simp, .inl ⟨_, _, rfl, run_takeDeferred (by first | exact hD | exact hD'), ?_⟩⟩
          refine ⟨_, results_tmp2 rfl _ _ _, ?_⟩
          have hchk : chk (lst s) = 11 := by
            exact chk_big (by rw [Hlab.out, if_pos ⟨Ha.out, hpos⟩]) (by rw [Hlen.out]; exact hbig)
          exact ⟨_, [], by rw [hchk]; rfl, putObj_below h4 (by omega), Strs.nil _ _, fun h => (by rw [hchk] at h; cases h), fun _ => rfl⟩
        · gi_wp2
          refine ⟨by simp, .inl ⟨_, _, rfl, run_takeDeferred (by first | exact hD | exact hD'), ?_⟩⟩
          refine ⟨_, results_tmp2 rfl _ _ _, ?_⟩
          have hchk : chk (lst s) = 0 := by
            exact chk_ok (by rw [Hlab.out, if_pos ⟨Ha.out, hpos⟩]) (by rw [Hlen.out]; omega)
          refine ⟨v, (scan (lst s) 0).1.map (labOf s), by rw [hchk]; rfl, putObj_below h4 (by omega), ?_, fun _ => ?_, fun h => absurd hchk h⟩
          · exact Strs.mono (putObj_own (by first | exact hD | exact hD') rfl h3) (by omega)
          · rw [Hlab.out, if_pos ⟨Ha.out, hpos⟩]; rfl
    · have hb : (E != (s.size : Int) - 1) = true := by rw [bne_iff_ne]; exact ha
      have Ha := Lib.hid ha
      clear ha
      gi_wp2
      refine ⟨by simp, .inl ⟨_, _, rfl, run_takeDeferred (by first | exact hD | exact hD'), ?_⟩⟩
      refine ⟨_, results_tmp2 rfl _ _ _, ?_⟩
      have hchk : chk (lst s) = 10 := by
        exact chk_none (by rw [Hlab.out, if_neg (by rintro ⟨h, _⟩; exact Ha.out h)])
      exact ⟨_, [], by rw [hchk]; rfl, putObj_below h4 (by omega), Strs.nil _ _, fun h => (by rw [hchk] at h; cases h), fun _ => rfl⟩
  case stop =>
    rintro D c xs W _ h _
    exact h.elim

set_option maxRecDepth 100000 in
theorem check_any (s : ByteArray) (w : World) (hs : s.size ≤ 1099511627776) :
    Calls Try.prog 48 #[.string s] w fun e w' => e = .returned (.int .i64 (chk (lst s))) ∧ Below w.heap.size w w' := by
  go_enter Try.func48, Try.ntmps48
  go_wp2_with (go_at_call 90; refine (labels_any s _ hs).mono ?_; rintro e w' ⟨v, ls, rfl, hb, _, _, _⟩)
  go_ret
  exact ⟨rfl, hb⟩

/-- How many labels a name has; -1: it is none. -/
def depth (l : List UInt8) : Int := if chk l = 0 then (((lab l).map List.length).getD 0 : Nat) else -1

set_option maxRecDepth 100000 in
theorem depth_any (s : ByteArray) (w : World) (hs : s.size ≤ 1099511627776) :
    Calls Try.prog 80 #[.string s] w fun e w' => e = .returned (.int .i64 (depth (lst s))) ∧ Below w.heap.size w w' := by
  by_cases hc : chk (lst s) = 0
  · go_enter Try.func80, Try.ntmps80
    go_wp2_with (go_at_call 90; refine (labels_any s _ hs).mono ?_; rintro e w' ⟨v, ls, rfl, hb, hst, hl, hz⟩; have Hl := Lib.hid (hl hc); obtain ⟨A, cap, rfl⟩ := hst.shape; clear hl hz)
    go_ret
    exact ⟨by unfold depth; rw [if_pos hc, Hl.out]; rfl, hb⟩
  · have hne : ((chk (lst s) : Int) != 0) = true := by rw [bne_iff_ne]; exact hc
    have Hc := Lib.hid hc
    clear hc
    go_enter Try.func80, Try.ntmps80
    go_wp2_with (go_at_call 90; refine (labels_any s _ hs).mono ?_; rintro e w' ⟨v, ls, rfl, hb, hst, hl, hz⟩; clear hl hz)
    go_ret
    exact ⟨by unfold depth; rw [if_neg Hc.out]; rfl, hb⟩
end Go.Proofs.Ytihfapnipifiiaa
/- The walks of name.Lower and of its reference. -/
namespace Go.Proofs.Ytihfapnipifiiaa
open Go Go.RowKit Go.Shelf

/-- A row of bytes in memory, from its block's head on: written so far up to k with small letters. -/
def LowRow (s : ByteArray) (b k : Nat) (W : World) : Prop :=
  ∀ i, i < s.size → W.cell? ⟨b, i, none⟩ = some (.int .u8 ((if i < k then lowB ((lst s).getD i 0) else (lst s).getD i 0).toNat : Nat)) ∧ W.frozen? ⟨b, i, none⟩ = false
theorem LowRow.start (s : ByteArray) (w : World) : LowRow s w.heap.size 0 (Lib.bytesWorld w 5 s) := by
  intro i hi
  refine ⟨?_, ?_⟩
  · rw [Lib.bytesWorld_cell w _ s i hi, if_neg (by omega)]; rfl
  · unfold World.frozen?
    rw [Lib.bytesWorld_at_new]
    have : i < (Lib.bytesCells w 5 s).size := by
      unfold Lib.bytesCells; rw [Array.size_append, Array.size_map]; have : s.data.size = s.size := rfl; omega
    simp; omega
theorem bytes_below (w : World) (e : TypeId) (s : ByteArray) : Below w.heap.size w (Lib.bytesWorld w e s) :=
  ⟨rfl, rfl, rfl, by rw [Lib.bytesWorld_size]; omega, fun k hk => Lib.bytesWorld_at_old w e s k hk⟩
theorem LowRow.step {s : ByteArray} {b k : Nat} {W : World} (h : LowRow s b k W) (hk : k < s.size) {v : Value} (hv : v = .int .u8 ((lowB ((lst s).getD k 0)).toNat : Nat)) : LowRow s b (k + 1) (W.setCell ⟨b, k, none⟩ v) := by
  intro i hi
  refine ⟨?_, by rw [World.frozen?_setCell]; exact (h i hi).2⟩
  by_cases e : i = k
  · subst e; rw [if_pos (by omega), cell_set_same (h i hi).1, hv]
  · rw [World.cell?_setCell_other _ _ _ _ (by intro h; cases h; exact e rfl), (h i hi).1]
    by_cases h1 : i < k
    · rw [if_pos h1, if_pos (by omega)]
    · rw [if_neg h1, if_neg (by omega)]
theorem LowRow.same {s : ByteArray} {b k : Nat} {W : World} (h : LowRow s b k W) (hk : k < s.size) (hl : lowB ((lst s).getD k 0) = (lst s).getD k 0) : LowRow s b (k + 1) W := by
  intro i hi
  refine ⟨?_, (h i hi).2⟩
  rw [(h i hi).1]
  by_cases e : i = k
  · subst e; rw [if_neg (by omega), if_pos (by omega), hl]
  · by_cases h1 : i < k
    · rw [if_pos h1, if_pos (by omega)]
    · rw [if_neg h1, if_neg (by omega)]

theorem or32 : ∀ c : Nat, c < 91 → 65 ≤ c → c ||| 32 = c + 32 := by decide
theorem bits_or32 (c : Nat) (h1 : 65 ≤ c) (h2 : c ≤ 90) : bits .or .u8 (c : Int) 32 = (c : Int) + 32 := by
  have := u8_or_nat c 32 (by omega) (by omega)
  rw [or32 c (by omega) h1] at this
  simpa using this
theorem low_get {s : ByteArray} {k c : Nat} (hk : k < s.size) (hc : ((lst s).getD k 0).toNat = c) : (lowB ((lst s).getD k 0)).toNat = if 65 ≤ c ∧ c ≤ 90 then c + 32 else c := by
  unfold lowB
  have e : (65 ≤ (lst s).getD k 0 ∧ (lst s).getD k 0 ≤ 90) ↔ (65 ≤ c ∧ c ≤ 90) := by
    simp only [UInt8.le_iff_toNat_le, hc]; exact Iff.rfl
  by_cases h : 65 ≤ c ∧ c ≤ 90
  · rw [if_pos h, if_pos (e.2 h), UInt8.toNat_add, hc]
    show (c + 32) % 256 = c + 32
    omega
  · rw [if_neg h, if_neg (fun h' => h (e.1 h')), hc]
theorem LowRow.done {s : ByteArray} {b : Nat} {W : World} (h : LowRow s b s.size W) : ∀ i, i < s.size → W.cell? ⟨b, 0 + i, none⟩ = some (.int .u8 (((low (lst s)).map fun c => ((c.toNat : Nat) : Int)).getD i 0)) := by
  intro i hi
  rw [Nat.zero_add, (h i hi).1, if_pos hi]
  have hl : i < (lst s).length := by rw [lst_length]; exact hi
  unfold low
  simp [List.getD, List.getElem?_eq_getElem hl]
theorem low_str (s : ByteArray) : strOfNums ((low (lst s)).map fun c => ((c.toNat : Nat) : Int)) = bs (low (lst s)) := by
  apply lst_inj
  rw [lst_bs]; unfold lst
  rw [strOfNums_data, List.map_map]
  conv => rhs; rw [← List.map_id (low s.data.toList)]
  apply List.map_congr_left
  intro c _
  simp

set_option maxRecDepth 100000 in
set_option maxHeartbeats 1000000 in
theorem lower_any (s : ByteArray) (w : World) (hs : s.size ≤ 140737488355328) :
    Calls Try.prog 75 #[.string s] w fun e w' => e = .returned (.string (bs (low (lst s)))) ∧ Below w.heap.size w w' := by
  have hcv := fun (w : World) => Lib.run_convert_string_bytes w 9 109 5 s Try.underlying9 Try.underlying109 Try.underlying5
  go_enter Try.func75, Try.ntmps75
  go_wp2
  generalize hG : grownCap w s.size 0 5 = cap
  have hsz : (Lib.bytesWorld w 5 s).heap.size = w.heap.size + 1 := Lib.bytesWorld_size _ _ _
  have Hsz := Lib.hid hsz
  clear hG hsz
  go_loopw [4, 9] (fun _ k_ wr => ∃ k : Nat, k_ = .int .i64 k ∧ k ≤ s.size ∧ LowRow s w.heap.size k wr ∧ Below w.heap.size w wr ∧ w.heap.size < wr.heap.size) (fun _ i _ => s.size - (intOf i).toNat)
  case atStart => exact ⟨0, rfl, Nat.zero_le _, LowRow.start s w, bytes_below _ _ _, by rw [Hsz.out]; omega⟩
  case round =>
    obtain ⟨k, rfl, hk, hrow, hB, hz⟩ := hrel
    have Hrow := Lib.hid hrow
    clear hrow hcv
    by_cases hlt : k < s.size
    · obtain ⟨c, HC⟩ : ∃ c, Hid (((lst s).getD k 0).toNat = c) := ⟨_, rfl⟩
      have hcell := (Hrow.out k hlt).1
      have hfr := (Hrow.out k hlt).2
      rw [if_neg (by omega), HC.out] at hcell
      have HL := Lib.hid (low_get hlt HC.out)
      have hc255 : c ≤ 255 := by rw [← HC.out]; have := ((lst s).getD k 0).toNat_lt; omega
      by_cases h65 : 65 ≤ c ∧ c ≤ 90
      · obtain ⟨h65, h90⟩ := h65
        have hor := bits_or32 c h65 h90
        go_wp2
        go_roundw
        case rel => exact ⟨k + 1, by go_num, by omega, Hrow.out.step hlt (by rw [HL.out, if_pos ⟨h65, h90⟩]; go_num), hB.setCell (by simp) _, by simp [World.setCell]; omega⟩
        case measure => simp [intOf]; omega
      · by_cases h6 : 65 ≤ c
        · have h90 : 90 < c := by omega
          go_wp2
          go_roundw
          case rel => exact ⟨k + 1, by go_num, by omega, Hrow.out.same hlt (UInt8.toNat_inj.1 (by rw [HL.out, if_neg h65, HC.out])), hB, hz⟩
          case measure => simp [intOf]; omega
        · go_wp2
          go_roundw
          case rel => exact ⟨k + 1, by go_num, by omega, Hrow.out.same hlt (UInt8.toNat_inj.1 (by rw [HL.out, if_neg h65, HC.out])), hB, hz⟩
          case measure => simp [intOf]; omega
    · have hcc := run_convert_bytes_arg (P := Try.prog) wr 109 5 Try.underlying109 Try.underlying5 w.heap.size 0 s.size cap ((low (lst s)).map fun c => ((c.toNat : Nat) : Int)) (by unfold low; simp [lst_length]) (LowRow.done (by have := Hrow.out; rwa [show k = s.size by omega] at this)) 9 Try.underlying9
      rw [low_str] at hcc
      go_wp2
      go_ret
      exact ⟨rfl, hB⟩
set_option maxRecDepth 100000 in
set_option maxHeartbeats 1000000 in
theorem rlower_any (s : ByteArray) (w : World) (hs : s.size ≤ 140737488355328) :
    Calls Try.prog 24 #[.string s] w fun e w' => e = .returned (.string (bs (low (lst s)))) ∧ Below w.heap.size w w' := by
  have hcv := fun (w : World) => Lib.run_convert_string_bytes w 9 109 5 s Try.underlying9 Try.underlying109 Try.underlying5
  go_enter Try.func24, Try.ntmps24
  go_wp2
  generalize hG : grownCap w s.size 0 5 = cap
  have hsz : (Lib.bytesWorld w 5 s).heap.size = w.heap.size + 1 := Lib.bytesWorld_size _ _ _
  have Hsz := Lib.hid hsz
  clear hG hsz
  go_loopw [4] (fun k_ wr => ∃ k : Nat, k_ = .int .i64 k ∧ k ≤ s.size ∧ LowRow s w.heap.size k wr ∧ Below w.heap.size w wr ∧ w.heap.size < wr.heap.size) (fun i _ => s.size - (intOf i).toNat)
  case atStart => exact ⟨0, rfl, Nat.zero_le _, LowRow.start s w, bytes_below _ _ _, by rw [Hsz.out]; omega⟩
  case round =>
    obtain ⟨k, rfl, hk, hrow, hB, hz⟩ := hrel
    have Hrow := Lib.hid hrow
    clear hrow hcv
    by_cases hlt : k < s.size
    · obtain ⟨c, HC⟩ : ∃ c, Hid (((lst s).getD k 0).toNat = c) := ⟨_, rfl⟩
      have hcell := (Hrow.out k hlt).1
      have hfr := (Hrow.out k hlt).2
      rw [if_neg (by omega), HC.out] at hcell
      have HL := Lib.hid (low_get hlt HC.out)
      have hc255 : c ≤ 255 := by rw [← HC.out]; have := ((lst s).getD k 0).toNat_lt; omega
      by_cases h65 : 65 ≤ c ∧ c ≤ 90
      · obtain ⟨h65, h90⟩ := h65
        go_wp2
        go_roundw
        case rel => exact ⟨k + 1, by go_num, by omega, Hrow.out.step hlt (by rw [HL.out, if_pos ⟨h65, h90⟩]; go_num), hB.setCell (by simp) _, by simp [World.setCell]; omega⟩
        case measure => simp [intOf]; omega
      · by_cases h6 : 65 ≤ c
        · have h90 : 90 < c := by omega
          go_wp2
          go_roundw
          case rel => exact ⟨k + 1, by go_num, by omega, Hrow.out.same hlt (UInt8.toNat_inj.1 (by rw [HL.out, if_neg h65, HC.out])), hB, hz⟩
          case measure => simp [intOf]; omega
        · go_wp2
          go_roundw
          case rel => exact ⟨k + 1, by go_num, by omega, Hrow.out.same hlt (UInt8.toNat_inj.1 (by rw [HL.out, if_neg h65, HC.out])), hB, hz⟩
          case measure => simp [intOf]; omega
    · have hcc := run_convert_bytes_arg (P := Try.prog) wr 109 5 Try.underlying109 Try.underlying5 w.heap.size 0 s.size cap ((low (lst s)).map fun c => ((c.toNat : Nat) : Int)) (by unfold low; simp [lst_length]) (LowRow.done (by have := Hrow.out; rwa [show k = s.size by omega] at this)) 9 Try.underlying9
      rw [low_str] at hcc
      go_wp2
      go_ret
      exact ⟨rfl, hB⟩
end Go.Proofs.Ytihfapnipifiiaa
/- The walks of package name: slices.Reverse, two, Shared, Same, Under. -/
namespace Go.Proofs.Ytihfapnipifiiaa
open Go Go.RowKit Go.Shelf

/-- A whole block of one-cell elements, of which the first n are known. -/
def RowIs (w : World) (g : Nat) (e : TypeId) (cap : Nat) (f : Nat → Value) (n : Nat) : Prop :=
  ∃ cur : Array Value, w.heap[g]? = some (.cells cur e (0, 0)) ∧ cur.size = cap ∧ ∀ i, i < n → cur[i]? = some (f i)
theorem RowIs.cell {w : World} {g : Nat} {e : TypeId} {cap : Nat} {f : Nat → Value} {n : Nat} (h : RowIs w g e cap f n) {i : Nat} (hi : i < n) : w.cell? ⟨g, i, none⟩ = some (f i) ∧ w.frozen? ⟨g, i, none⟩ = false := by
  obtain ⟨cur, h1, _, h3⟩ := h
  exact ⟨by simp [World.cell?, h1, h3 i hi], by simp [World.frozen?, h1]⟩
theorem RowIs.set {w : World} {g : Nat} {e : TypeId} {cap : Nat} {f : Nat → Value} {n : Nat} (h : RowIs w g e cap f n) {i : Nat} (v : Value) : RowIs (w.setCell ⟨g, i, none⟩ v) g e cap (fun j => if j = i then v else f j) n := by
  obtain ⟨cur, h1, h2, h3⟩ := h
  refine ⟨cur.setIfInBounds i v, ?_, by simp [h2], ?_⟩
  · simp [World.setCell, Array.getElem?_modify, h1]
  · intro j hj
    have hlt : j < cur.size := (Array.getElem?_eq_some_iff.1 (h3 j hj)).1
    rw [Array.getElem?_setIfInBounds]
    by_cases e : i = j
    · subst e; simp [hlt]
    · have e' : ¬ j = i := fun h => e h.symm
      simp [e, e', h3 j hj]
theorem RowIs.drew {w : World} {g : Nat} {e : TypeId} {cap : Nat} {f : Nat → Value} {n : Nat} (h : RowIs w g e cap f n) : RowIs w.drew g e cap f n := h
theorem RowIs.congr {w : World} {g : Nat} {e : TypeId} {cap : Nat} {f f' : Nat → Value} {n : Nat} (h : RowIs w g e cap f n) (hf : ∀ i, i < n → f i = f' i) : RowIs w g e cap f' n := by
  obtain ⟨cur, h1, h2, h3⟩ := h
  exact ⟨cur, h1, h2, fun i hi => (h3 i hi).trans (by rw [hf i hi])⟩
theorem Strs.row {w : World} {B : Nat} {g n cap : Nat} {ls : List (List UInt8)} (h : Strs w B (.slice (some ⟨g, 0, none⟩) n cap) ls) :
    n = ls.length ∧ B ≤ g ∧ n ≤ cap ∧ cap ≤ maxLen ∧ RowIs w g 9 cap (fun i => .string (bs (ls.getD i []))) n := by
  obtain ⟨_, h | ⟨g', cap', cur, e, hb, hh, hn, hm, hs, ht⟩⟩ := h
  · cases h.1
  · cases e
    refine ⟨rfl, hb, hn, hm, cur, hh, by omega, fun i hi => ?_⟩
    have hc := congrArg (fun l => l[i]?) ht
    simp only [Nat.mul_one] at hc
    rw [List.getElem?_take_of_lt hi, List.getElem?_map, List.getElem?_eq_getElem hi] at hc
    rw [Array.getElem?_toList] at hc
    rw [hc]; simp [List.getD, List.getElem?_eq_getElem hi]
theorem Strs.of_row {w : World} {B : Nat} {g cap : Nat} {ls : List (List UInt8)} (hb : B ≤ g) (hn : ls.length ≤ cap) (hm : cap ≤ maxLen)
    (h : RowIs w g 9 cap (fun i => .string (bs (ls.getD i []))) ls.length) : Strs w B (.slice (some ⟨g, 0, none⟩) ls.length cap) ls := by
  obtain ⟨cur, h1, h2, h3⟩ := h
  refine ⟨by simp, .inr ⟨g, cap, cur, rfl, hb, h1, hn, hm, by omega, ?_⟩⟩
  apply List.ext_getElem?
  intro i
  rw [Nat.mul_one]
  by_cases hi : i < ls.length
  · rw [List.getElem?_take_of_lt hi, Array.getElem?_toList, h3 i hi, List.getElem?_map, List.getElem?_eq_getElem hi]
    simp [List.getD, List.getElem?_eq_getElem hi]
  · rw [List.getElem?_take, if_neg hi, List.getElem?_eq_none (by simp; omega)]

/-- The first k and the last k of n are exchanged. -/
def revAt (ls : List (List UInt8)) (k i : Nat) : List UInt8 := if i < k ∨ ls.length - k ≤ i then ls.getD (ls.length - 1 - i) [] else ls.getD i []

theorem revAt_step {ls : List (List UInt8)} {k n : Nat} (hn : n = ls.length) (hk : 2 * k + 1 < n) (i : Nat) (hi : i < n) :
    (if i = n - 1 - k then Value.string (bs (revAt ls k k)) else if i = k then Value.string (bs (revAt ls k (n - 1 - k))) else Value.string (bs (revAt ls k i))) = Value.string (bs (revAt ls (k + 1) i)) := by
  subst hn
  by_cases h1 : i = ls.length - 1 - k
  · rw [if_pos h1]; unfold revAt
    rw [if_neg (by omega), if_pos (by omega), show ls.length - 1 - i = k by omega]
  · rw [if_neg h1]
    by_cases h2 : i = k
    · rw [if_pos h2]; unfold revAt
      rw [if_neg (by omega), if_pos (by omega), h2]
    · rw [if_neg h2]; unfold revAt
      by_cases h3 : i < k ∨ ls.length - k ≤ i
      · rw [if_pos h3, if_pos (by omega)]
      · rw [if_neg h3, if_neg (by omega)]
theorem revAt_end {ls : List (List UInt8)} {k n : Nat} (hn : n = ls.length) (hk : n ≤ 2 * k + 1) (i : Nat) (hi : i < n) : revAt ls k i = ls.reverse.getD i [] := by
  subst hn
  have e : ls.reverse.getD i [] = ls.getD (ls.length - 1 - i) [] := by
    simp [List.getD, List.getElem?_reverse hi]
  rw [e]; unfold revAt
  by_cases h : i < k ∨ ls.length - k ≤ i
  · rw [if_pos h]
  · rw [if_neg h, show ls.length - 1 - i = i by omega]
theorem grown_set {w W : World} {g i : Nat} {v : Value} (h : w.grownBy W (some g)) : w.grownBy (W.setCell ⟨g, i, none⟩ v) (some g) :=
  ⟨h.os, h.tape, h.output, by have := h.size; simp [World.setCell]; omega, fun k hk hne => (Below.heap_setCell _ _ _ _ (by simp; intro e; exact hne (by rw [e]))).trans (h.block k hk hne)⟩
theorem grown_drew {w W : World} {r : Option Nat} (h : w.grownBy W r) : w.grownBy W.drew r := ⟨h.os, h.tape, h.output, h.size, h.block⟩

set_option maxRecDepth 100000 in
set_option maxHeartbeats 1000000 in
theorem reverse_any (g n cap : Nat) (ls : List (List UInt8)) (B : Nat) (w : World) (hst : Strs w B (.slice (some ⟨g, 0, none⟩) n cap) ls) :
    Calls Try.prog 123 #[.slice (some ⟨g, 0, none⟩) n cap] w fun e w' => e = .returned (.tuple #[]) ∧ Strs w' B (.slice (some ⟨g, 0, none⟩) n cap) ls.reverse ∧ w.grownBy w' (some g) := by
  obtain ⟨hn, hB, hc, hm, hrow⟩ := hst.row
  have Hm := Lib.hid hm
  unfold maxLen at hm
  have Hn := Lib.hid hn
  have hcap : n ≤ 9223372036854775807 := by omega
  clear hn hst hm
  go_enter Try.func123, Try.ntmps123
  go_wp2
  go_loopw [2, 3] (fun i_ j_ wr => ∃ k : Nat, i_ = .int .i64 k ∧ j_ = .int .i64 ((n : Int) - 1 - k) ∧ 2 * k ≤ n + 1 ∧ RowIs wr g 9 cap (fun i => .string (bs (revAt ls k i))) n ∧ w.grownBy wr (some g)) (fun i _ _ => n - (intOf i).toNat)
  case atStart => exact ⟨0, rfl, by simp, by omega, hrow.congr (fun i hi => by have := Hn.out; unfold revAt; rw [if_neg (by omega)]), ⟨rfl, rfl, rfl, Nat.le_refl _, fun _ _ _ => rfl⟩⟩
  case round =>
    obtain ⟨k, rfl, rfl, hk, hr, hg⟩ := hrel
    by_cases hlt : 2 * k + 1 < n
    · obtain ⟨c1, f1⟩ := hr.cell (i := k) (by omega)
      obtain ⟨c2, f2⟩ := hr.cell (i := n - 1 - k) (by omega)
      have et : ((n : Int) - 1 - k).toNat = n - 1 - k := by omega
      have b1 : 0 ≤ (n : Int) - 1 - k := by omega
      have b2 : (n : Int) - 1 - k < n := by omega
      have b3 : (k : Int) < (n : Int) - 1 - k := by omega
      have Hr := Lib.hid hr
      clear hrow hr
      go_wp2
      go_region
      all_goals go_wp2
      all_goals go_roundw
      case rel =>
        refine ⟨k + 1, by go_num, by congr 1; omega, by omega, ?_, ?_⟩
        · exact RowIs.drew ((((Hr.out).set _).set _).congr (fun i hi => revAt_step Hn.out hlt i hi))
        · exact grown_drew (grown_set (grown_set hg))
      case measure => simp [intOf]; omega
    · go_wp2
      go_end0
      have hn := Hn.out
      refine ⟨rfl, ?_, hg⟩
      have e : n = ls.reverse.length := by rw [List.length_reverse]; exact hn
      have := Strs.of_row (w := wr) (B := B) (g := g) (cap := cap) (ls := ls.reverse) hB (by omega) Hm.out (by rw [← e]; exact hr.congr (fun i hi => by rw [revAt_end hn (by omega) i hi]))
      rwa [← e] at this

theorem reverse_nil (w : World) :
    Calls Try.prog 123 #[.slice none 0 0] w fun e w' => e = .returned (.tuple #[]) ∧ w = w' := by
  go_enter Try.func123, Try.ntmps123
  go_wp2
  refine wp_loop_once ?_
  go_wp2
  go_end0
  exact ⟨rfl, rfl⟩
theorem reverse_strs {v : Value} {ls : List (List UInt8)} {B : Nat} {w : World} (hst : Strs w B v ls) :
    Calls Try.prog 123 #[v] w fun e w' => e = .returned (.tuple #[]) ∧ Strs w' B v ls.reverse ∧ w.grownBy w' v.ownBlock := by
  rcases hst.2 with ⟨rfl, hn⟩ | ⟨g, cap, cur, rfl, _⟩
  · refine (reverse_nil w).mono ?_
    rintro e w' ⟨rfl, rfl⟩
    have : ls = [] := List.eq_nil_of_length_eq_zero hn
    subst this
    exact ⟨rfl, hst, ⟨rfl, rfl, rfl, Nat.le_refl _, fun _ _ _ => rfl⟩⟩
  · exact reverse_any g _ cap ls B w hst
theorem Strs.lt {w : World} {B : Nat} {v : Value} {ls : List (List UInt8)} (h : Strs w B v ls) (k : Nat) (hk : v.ownBlock = some k) : B ≤ k ∧ k < w.heap.size := by
  obtain ⟨h1, cur, h2⟩ := own_cells h k hk
  exact ⟨h1, (Array.getElem?_eq_some_iff.1 h2).1⟩
theorem Strs.other {w w' : World} {B : Nat} {v u : Value} {ls : List (List UInt8)} (h : Strs w B v ls) (hd : ∀ k, u.ownBlock = some k → k < B) (hg : w.grownBy w' u.ownBlock) : Strs w' B v ls := by
  refine World.ownsRow.kept h hg ?_
  by_cases e : v.ownBlock = u.ownBlock
  · cases hv : v.ownBlock with
    | none => exact .inl rfl
    | some k => rw [hv] at e; have := hd k e.symm; have := (Strs.lt h k hv).1; omega
  · exact .inr e

/-- What 'two' hands back. -/
def TwoPost (a b : List UInt8) (w : World) (e : Ending) (w' : World) : Prop :=
  ∃ v u ls ms, e = .returned (.tuple #[v, u, .bool (decide (chk a = 0) && decide (chk b = 0))]) ∧ Below w.heap.size w w' ∧ Strs w' w.heap.size v ls ∧ Strs w' w.heap.size u ms ∧
    (chk a = 0 → lab (low a) = some ls.reverse) ∧ (chk b = 0 → lab (low b) = some ms.reverse)

theorem low_length (l : List UInt8) : (low l).length = l.length := by simp [low]
theorem lowB_zero : ∀ c : UInt8, lowB c = 0 ↔ c = 0 := by
  intro c; unfold lowB
  by_cases h : 65 ≤ c ∧ c ≤ 90
  · rw [if_pos h]
    obtain ⟨h1, h2⟩ := h
    constructor
    · intro e
      have := congrArg UInt8.toNat e
      rw [UInt8.toNat_add] at this
      simp only [UInt8.le_iff_toNat_le] at h1 h2
      have e1 : (65 : UInt8).toNat = 65 := rfl
      have e2 : (90 : UInt8).toNat = 90 := rfl
      have e3 : (32 : UInt8).toNat = 32 := rfl
      have e4 : (0 : UInt8).toNat = 0 := rfl
      omega
    · intro e; subst e; simp only [UInt8.le_iff_toNat_le] at h1; exact absurd h1 (by decide)
  · rw [if_neg h]
theorem lowB_toNat (c : UInt8) : (lowB c).toNat = if 65 ≤ c.toNat ∧ c.toNat ≤ 90 then c.toNat + 32 else c.toNat := by
  unfold lowB
  have e : (65 ≤ c ∧ c ≤ 90) ↔ (65 ≤ c.toNat ∧ c.toNat ≤ 90) := by simp only [UInt8.le_iff_toNat_le]; exact Iff.rfl
  by_cases h : 65 ≤ c.toNat ∧ c.toNat ≤ 90
  · rw [if_pos (e.2 h), if_pos h, UInt8.toNat_add]
    show (c.toNat + 32) % 256 = _
    omega
  · rw [if_neg (fun h' => h (e.1 h')), if_neg h]
theorem lab_low (l : List UInt8) : lab (low l) = (lab l).map (fun ls => ls.map low) := by
  suffices ∀ n (l : List UInt8), l.length = n → lab (low l) = (lab l).map (fun ls => ls.map low) from this _ l rfl
  intro n
  induction n using Nat.strongRecOn with
  | _ n ih =>
    intro l hl
    cases l with
    | nil => simp [low, lab]
    | cons c r =>
      have e : low (c :: r) = lowB c :: low r := rfl
      rw [e, lab, lab]
      by_cases h0 : c = 0
      · rw [if_pos ((lowB_zero c).2 h0), if_pos h0]
        by_cases hr : r = []
        · subst hr; simp [low]
        · rw [if_neg hr, if_neg (fun h => hr (by simpa [low] using h))]; rfl
      · rw [if_neg (fun h => h0 ((lowB_zero c).1 h)), if_neg h0, low_length]
        have ht := lowB_toNat c
        by_cases hb : 63 < c.toNat ∨ r.length < c.toNat
        · rw [if_pos hb]
          by_cases h63 : 63 < c.toNat
          · rw [if_pos (.inl (by rw [ht]; split <;> omega))]; rfl
          · rw [if_pos (.inr (by rw [ht, if_neg (by omega)]; omega))]; rfl
        · rw [if_neg hb]
          have ec : (lowB c).toNat = c.toNat := by rw [ht, if_neg (by omega)]
          rw [ec, if_neg hb]
          have hd : (low r).drop c.toNat = low (r.drop c.toNat) := by simp [low]
          have htk : (low r).take c.toNat = low (r.take c.toNat) := by simp [low]
          rw [hd, htk, ih (r.drop c.toNat).length (by simp only [List.length_drop, List.length_cons] at hl ⊢; omega) _ rfl]
          cases lab (r.drop c.toNat) <;> simp
theorem chk_low (l : List UInt8) : chk (low l) = chk l := by
  unfold chk; rw [lab_low, low_length]; cases lab l <;> simp

set_option maxRecDepth 100000 in
set_option maxHeartbeats 1000000 in
theorem two_any (a b : ByteArray) (w : World) (ha : a.size ≤ 1099511627776) (hb : b.size ≤ 1099511627776) :
    Calls Try.prog 116 #[.string a, .string b] w (TwoPost (lst a) (lst b) w) := by
  have hla := lst_length a
  have hlb := lst_length b
  have Hla := Lib.hid hla
  have Hlb := Lib.hid hlb
  clear hla hlb
  go_enter Try.func116, Try.ntmps116
  go_wp2_with fail
  refine (lower_any a _ (by omega)).mono ?_
  rintro e w1 ⟨rfl, h1⟩
  go_wp2_with fail
  refine (labels_any (bs (low (lst a))) _ (by rw [bs_size, low_length, Hla.out]; exact ha)).mono ?_
  rintro e w2 ⟨v, ls, rfl, h2, hs2, hl2, hz2⟩
  rw [lst_bs, chk_low] at *
  have Hl2 := Lib.hid hl2
  clear hl2 hz2
  go_wp2_with fail
  refine (lower_any b _ (by omega)).mono ?_
  rintro e w3 ⟨rfl, h3⟩
  go_wp2_with fail
  refine (labels_any (bs (low (lst b))) _ (by rw [bs_size, low_length, Hlb.out]; exact hb)).mono ?_
  rintro e w4 ⟨u, ms, rfl, h4, hs4, hl4, hz4⟩
  rw [lst_bs, chk_low] at *
  have Hl4 := Lib.hid hl4
  clear hl4 hz4
  have hlt2 : ∀ k, v.ownBlock = some k → w1.heap.size ≤ k ∧ k < w2.heap.size := fun k hk => hs2.lt k hk
  have hz12 := h1.size
  have hz23 := h2.size
  have hz34 := h3.size
  have hz45 := h4.size
  have hs2' : Strs w4 w1.heap.size v ls := (hs2.below h3).below h4
  go_wp2_with fail
  refine (reverse_strs hs2').mono ?_
  rintro e w5 ⟨rfl, hs5, hg5⟩
  have hs4' : Strs w5 w3.heap.size u ms := hs4.other (fun k hk => by have := (hlt2 k hk).2; omega) hg5
  have hlt4 : ∀ k, u.ownBlock = some k → w3.heap.size ≤ k ∧ k < w5.heap.size := fun k hk => hs4'.lt k hk
  go_wp2_with fail
  refine (reverse_strs hs4').mono ?_
  rintro e w6 ⟨rfl, hs6, hg6⟩
  have hz56 := hg5.size
  have hz67 := hg6.size
  have hs5' : Strs w6 w1.heap.size v ls.reverse := by
    refine World.ownsRow.kept hs5 hg6 ?_
    by_cases e : v.ownBlock = u.ownBlock
    · cases hv : v.ownBlock with
      | none => exact .inl rfl
      | some k => rw [hv] at e; have := (hlt4 k e.symm).1; have := (hlt2 k hv).2; omega
    · exact .inr e
  have hB : Below w.heap.size w w6 := by
    have b4 : Below w.heap.size w w4 := ((h1.trans (h2.mono (by omega))).trans (h3.mono (by omega))).trans (h4.mono (by omega))
    have b5 := b4.grown hg5 (by omega) (fun k hk => by have := (hlt2 k hk).1; omega)
    exact b5.grown hg6 (by omega) (fun k hk => by have := (hlt4 k hk).1; omega)
  have fin : ∀ (r : Bool), r = (decide (chk (lst a) = 0) && decide (chk (lst b) = 0)) → TwoPost (lst a) (lst b) w (.returned (.tuple #[v, u, .bool r])) w6 := fun r hr =>
    ⟨v, u, ls.reverse, ms.reverse, by rw [hr], hB, hs5'.mono (by omega), hs6.mono (by omega), fun h => by rw [List.reverse_reverse]; exact Hl2.out h, fun h => by rw [List.reverse_reverse]; exact Hl4.out h⟩
  clear hs2 hs2' hs4 hs4' hs5 hs5' hs6 hg5 hg6 hB h1 h2 h3 h4 hlt2 hlt4
  have Fin := Lib.hid fin
  clear fin
  by_cases ca : chk (lst a) = 0
  · have ba : ((chk (lst a) : Int) == 0) = true := by rw [ca]; rfl
    have Ca := Lib.hid ca
    clear ca
    by_cases cb : chk (lst b) = 0
    · have bb : ((chk (lst b) : Int) == 0) = true := by rw [cb]; rfl
      have Cb := Lib.hid cb
      clear cb
      go_wp2
      go_ret3
      exact Fin.out true (by rw [Ca.out, Cb.out]; rfl)
    · have bb : ((chk (lst b) : Int) == 0) = false := beq_eq_false_iff_ne.2 cb
      have Cb := Lib.hid cb
      clear cb
      go_wp2
      go_ret3
      exact Fin.out false (by rw [decide_eq_false Cb.out]; simp)
  · have ba : ((chk (lst a) : Int) == 0) = false := beq_eq_false_iff_ne.2 ca
    have Ca := Lib.hid ca
    clear ca
    go_wp2
    go_ret3
    exact Fin.out false (by rw [decide_eq_false Ca.out]; simp)
end Go.Proofs.Ytihfapnipifiiaa
/- The walks of package name: Shared, Same, Under. -/
namespace Go.Proofs.Ytihfapnipifiiaa
open Go Go.RowKit Go.Shelf

/-- How many of the first ones are the same. -/
def cpl : List (List UInt8) → List (List UInt8) → Nat
  | x :: xs, y :: ys => if x = y then cpl xs ys + 1 else 0
  | _, _ => 0
theorem cpl_spec : ∀ (xs ys : List (List UInt8)) (k : Nat), (∀ i, i < k → i < xs.length ∧ i < ys.length ∧ xs.getD i [] = ys.getD i []) → ¬ (k < xs.length ∧ k < ys.length ∧ xs.getD k [] = ys.getD k []) → cpl xs ys = k := by
  intro xs
  induction xs with
  | nil =>
    intro ys k h1 _
    cases k with
    | zero => rfl
    | succ k => have := (h1 0 (by omega)).1; simp at this
  | cons x xs ih =>
    intro ys k h1 h2
    cases ys with
    | nil =>
      cases k with
      | zero => rfl
      | succ k => have := (h1 0 (by omega)).2.1; simp at this
    | cons y ys =>
      cases k with
      | zero =>
        simp only [List.length_cons, List.getD_cons_zero] at h2
        unfold cpl; rw [if_neg (fun h => h2 ⟨by omega, by omega, h⟩)]
      | succ k =>
        have h0 := (h1 0 (by omega)).2.2
        simp only [List.getD_cons_zero] at h0
        unfold cpl; rw [if_pos h0, ih ys k]
        · intro i hi
          have := h1 (i + 1) (by omega)
          simpa using this
        · intro h
          apply h2
          simpa using h

def SameAt (xs ys : List (List UInt8)) (k : Nat) : Bool := decide (k < xs.length) && decide (k < ys.length) && (xs.getD k [] == ys.getD k [])

theorem Strs.cellAt {w : World} {B : Nat} {v : Value} {ls : List (List UInt8)} (h : Strs w B v ls) {k : Nat} (hk : k < ls.length) : ∃ g cap, v = .slice (some ⟨g, 0, none⟩) ls.length cap ∧ w.cell? ⟨g, k, none⟩ = some (.string (bs (ls.getD k []))) := by
  rcases h.2 with ⟨_, hn⟩ | ⟨g, cap, cur, rfl, _⟩
  · omega
  · exact ⟨g, cap, rfl, ((Strs.row h).2.2.2.2.cell hk).1⟩

set_option maxRecDepth 100000 in
set_option maxHeartbeats 1000000 in
theorem sharedc_any (bx by_ : Nat) (v u : Value) (xs ys : List (List UInt8)) (B1 B2 : Nat) (k : Nat) (w : World) (hx : w.cell? ⟨bx, 0, none⟩ = some v) (hy : w.cell? ⟨by_, 0, none⟩ = some u) (hsx : Strs w B1 v xs) (hsy : Strs w B2 u ys) (hk : k ≤ 1099511627776) :
    Calls Try.prog 117 #[.int .i64 k, .pointer (some ⟨bx, 0, none⟩), .pointer (some ⟨by_, 0, none⟩)] w fun e w' => e = .returned (.bool (SameAt xs ys k)) ∧ ∃ n, w' = w.drewN n := by
  by_cases h1 : k < xs.length
  · obtain ⟨gx, cx, rfl, hcx⟩ := hsx.cellAt h1
    by_cases h2 : k < ys.length
    · obtain ⟨gy, cy, rfl, hcy⟩ := hsy.cellAt h2
      clear hsx hsy
      generalize hX : xs.length = nx at *
      generalize hY : ys.length = ny at *
      have HX := Lib.hid hX
      have HY := Lib.hid hY
      clear hX hY
      have b1 : decide (k < nx) = true := by simpa using h1
      have b2 : decide (k < ny) = true := by simpa using h2
      go_enter Try.func117, Try.ntmps117
      go_wp2
      go_quiet (fail)
      go_wp2
      go_ret
      refine ⟨?_, _, rfl⟩
      show Ending.returned (.bool ((bs (xs[k]?.getD [])).toList == (bs (ys[k]?.getD [])).toList)) = _
      rw [toList_bs, toList_bs]
      unfold SameAt; rw [HX.out, HY.out, b1, b2]; rfl
    · obtain ⟨A, cap, rfl⟩ := hsy.shape
      clear hsx hsy
      generalize hX : xs.length = nx at *
      generalize hY : ys.length = ny at *
      have HX := Lib.hid hX
      have HY := Lib.hid hY
      clear hX hY
      have b1 : decide (k < nx) = true := by simpa using h1
      have b2 : decide (k < ny) = false := by simpa using h2
      go_enter Try.func117, Try.ntmps117
      go_wp2
      go_quiet (fail)
      go_wp2
      go_ret
      exact ⟨by unfold SameAt; rw [HX.out, HY.out, b1, b2]; rfl, _, rfl⟩
  · obtain ⟨A, cap, rfl⟩ := hsx.shape
    clear hsx hsy
    generalize hX : xs.length = nx at *
    have HX := Lib.hid hX
    clear hX
    have b1 : decide (k < nx) = false := by simpa using h1
    go_enter Try.func117, Try.ntmps117
    go_wp2
    go_quiet (fail)
    go_wp2
    go_ret
    exact ⟨by unfold SameAt; rw [HX.out, b1]; rfl, _, rfl⟩

theorem pw_drewN {B : Nat} {w W : World} (h : Below B w W) (n : Nat) : Below B w (W.drewN n) := ⟨h.os, h.tape, h.output, h.size, h.block⟩
/-- How many of the last labels are the same; -1: one is none. -/
def revlab (l : List UInt8) : List (List UInt8) := ((lab (low l)).getD []).reverse
def shared (a b : List UInt8) : Int := if chk a = 0 ∧ chk b = 0 then (cpl (revlab a) (revlab b) : Nat) else -1

set_option maxRecDepth 100000 in
set_option maxHeartbeats 1000000 in
theorem shared_any (a b : ByteArray) (w : World) (ha : a.size ≤ 1099511627776) (hb : b.size ≤ 1099511627776) :
    Calls Try.prog 99 #[.string a, .string b] w fun e w' => e = .returned (.int .i64 (shared (lst a) (lst b))) ∧ Below w.heap.size w w' := by
  go_enter Try.func99, Try.ntmps99
  go_wp2_with fail
  refine (two_any a b _ ha hb).mono ?_
  rintro e w1 ⟨v, u, xs, ys, rfl, h1, hx, hy, hlx, hly⟩
  have hz1 := h1.size
  have Hlx := Lib.hid hlx
  have Hly := Lib.hid hly
  clear hlx hly
  by_cases hc : chk (lst a) = 0 ∧ chk (lst b) = 0
  · have Hc := Lib.hid hc
    have e1 : decide (chk (lst a) = 0) = true := decide_eq_true hc.1
    have e2 : decide (chk (lst b) = 0) = true := decide_eq_true hc.2
    rw [e1, e2]
    have lx : xs.length ≤ 1099511627776 := by
      have := lab_len _ (Hlx.out hc.1); rw [low_length, lst_length, List.length_reverse] at this; omega
    clear hc e1 e2
    obtain ⟨A, ca, rfl⟩ := hx.shape
    obtain ⟨A', ca', rfl⟩ := hy.shape
    go_wp2
    generalize hW : (((w1.alloc (Obj.cells #[.slice A xs.length ca] 47)).alloc (Obj.cells #[.slice A' ys.length ca'] 47))) = W
    have g1 : W.cell? ⟨w1.heap.size, 0, none⟩ = some (.slice A xs.length ca) := by subst hW; go_simp
    have g2 : W.cell? ⟨w1.heap.size + 1, 0, none⟩ = some (.slice A' ys.length ca') := by subst hW; go_simp
    have g3 : Below w1.heap.size w1 W := by subst hW; exact ((Below.refl _ w1).alloc (Nat.le_refl _) _).alloc (by simp) _
    have g4 := hx.below g3
    have g5 := hy.below g3
    have g6 := h1.trans (g3.mono hz1)
    clear hW g3 hx hy h1
    go_loopw [9] (fun n_ wr => ∃ k : Nat, n_ = .int .i64 k ∧ (∀ i, i < k → SameAt xs ys i = true) ∧ k ≤ xs.length ∧ ∃ m, wr = W.drewN m) (fun n_ _ => xs.length - (intOf n_).toNat)
    case atStart => exact ⟨0, rfl, fun i hi => absurd hi (Nat.not_lt_zero i), Nat.zero_le _, 0, rfl⟩
    case round =>
      obtain ⟨k, rfl, hall, hle, m, rfl⟩ := hrel
      have Hall := Lib.hid hall
      clear hall
      by_cases hs : SameAt xs ys k = true
      · have Hs := Lib.hid hs
        have hlt : k < xs.length := by unfold SameAt at hs; simp only [Bool.and_eq_true, decide_eq_true_eq] at hs; exact hs.1.1
        clear hs
        go_wp2_with (go_at_call 117; refine (sharedc_any _ _ _ _ xs ys w.heap.size w.heap.size k _ (by exact g1) (by exact g2) (by exact g4) (by exact g5) (by omega)).mono ?_; rintro e w' ⟨rfl, n, rfl⟩; rw [Hs.out])
        go_roundw
        case rel => exact ⟨k + 1, by go_num, fun i hi => by
          by_cases e : i = k
          · rw [e]; exact Hs.out
          · exact Hall.out i (by omega), by omega, _, rfl⟩
        case measure => simp [intOf]; omega
      · have hs' : SameAt xs ys k = false := by simpa using hs
        have Hs := Lib.hid hs'
        clear hs hs'
        go_wp2_with (go_at_call 117; refine (sharedc_any _ _ _ _ xs ys w.heap.size w.heap.size k _ (by exact g1) (by exact g2) (by exact g4) (by exact g5) (by omega)).mono ?_; rintro e w' ⟨rfl, n, rfl⟩; rw [Hs.out])
        go_ret
        refine ⟨?_, ?_⟩
        · unfold shared; rw [if_pos Hc.out]
          have e1 : revlab (lst a) = xs := by unfold revlab; rw [Hlx.out Hc.out.1]; simp
          have e2 : revlab (lst b) = ys := by unfold revlab; rw [Hly.out Hc.out.2]; simp
          rw [e1, e2, cpl_spec xs ys k]; · rfl
          · intro i hi
            have := Hall.out i hi
            unfold SameAt at this
            simp only [Bool.and_eq_true, decide_eq_true_eq, beq_iff_eq] at this
            exact ⟨this.1.1, this.1.2, this.2⟩
          · rintro ⟨i1, i2, i3⟩
            have := Hs.out
            unfold SameAt at this
            rw [i3] at this
            simp [i1, i2] at this
        · exact pw_drewN g6 _
  · have e1 : (decide (chk (lst a) = 0) && decide (chk (lst b) = 0)) = false := by
      rw [← Bool.not_eq_true]; intro h; apply hc; simpa using h
    rw [e1]
    have Hc := Lib.hid hc
    clear hc e1
    obtain ⟨A, ca, rfl⟩ := hx.shape
    obtain ⟨A', ca', rfl⟩ := hy.shape
    go_wp2
    go_ret
    refine ⟨by unfold shared; rw [if_neg Hc.out]; rfl, ?_⟩
    exact (h1.alloc hz1 _).alloc (by simp; omega) _

/-- Are two names the same? -/
def sameN (a b : List UInt8) : Bool := decide (chk a = 0) && (low a == low b)
/-- Is a name in a zone? -/
def underN (a z : List UInt8) : Bool := decide (0 ≤ depth z) && (shared a z == depth z)

set_option maxRecDepth 100000 in
theorem same_any (a b : ByteArray) (w : World) (ha : a.size ≤ 1099511627776) (hb : b.size ≤ 1099511627776) :
    Calls Try.prog 51 #[.string a, .string b] w fun e w' => e = .returned (.bool (sameN (lst a) (lst b))) ∧ Below w.heap.size w w' := by
  go_enter Try.func51, Try.ntmps51
  go_wp2_with fail
  refine (check_any a _ ha).mono ?_
  rintro e w1 ⟨rfl, h1⟩
  have hz1 := h1.size
  by_cases hc : chk (lst a) = 0
  · have bc : ((chk (lst a) : Int) == 0) = true := by rw [hc]; rfl
    have Hc := Lib.hid hc
    clear hc
    go_wp2_with fail
    refine (lower_any a _ (by omega)).mono ?_
    rintro e w2 ⟨rfl, h2⟩
    have hz2 := h2.size
    go_wp2_with fail
    refine (lower_any b _ (by omega)).mono ?_
    rintro e w3 ⟨rfl, h3⟩
    go_wp2
    go_ret
    refine ⟨?_, (h1.trans (h2.mono hz1)).trans (h3.mono (by omega))⟩
    show Ending.returned (.bool ((bs (low (lst a))).toList == (bs (low (lst b))).toList)) = _
    rw [toList_bs, toList_bs]
    unfold sameN; rw [decide_eq_true Hc.out]; rfl
  · have bc : ((chk (lst a) : Int) == 0) = false := beq_eq_false_iff_ne.2 hc
    have Hc := Lib.hid hc
    clear hc
    go_wp2
    go_ret
    exact ⟨by unfold sameN; rw [decide_eq_false Hc.out]; rfl, h1⟩

set_option maxRecDepth 100000 in
theorem under_any (a z : ByteArray) (w : World) (ha : a.size ≤ 1099511627776) (hb : z.size ≤ 1099511627776) :
    Calls Try.prog 64 #[.string a, .string z] w fun e w' => e = .returned (.bool (underN (lst a) (lst z))) ∧ Below w.heap.size w w' := by
  go_enter Try.func64, Try.ntmps64
  go_wp2_with fail
  refine (depth_any z _ hb).mono ?_
  rintro e w1 ⟨rfl, h1⟩
  have hz1 := h1.size
  generalize hd : depth (lst z) = d
  have Hd := Lib.hid hd
  clear hd
  by_cases hc : 0 ≤ d
  · have bc : decide (0 ≤ d) = true := decide_eq_true hc
    go_wp2_with fail
    refine (shared_any a z _ ha hb).mono ?_
    rintro e w2 ⟨rfl, h2⟩
    go_wp2
    go_ret
    exact ⟨by unfold underN; rw [Hd.out, bc]; rfl, h1.trans (h2.mono hz1)⟩
  · have bc : decide (0 ≤ d) = false := decide_eq_false hc
    go_wp2
    go_ret
    exact ⟨by unfold underN; rw [Hd.out, bc]; rfl, h1⟩
end Go.Proofs.Ytihfapnipifiiaa
