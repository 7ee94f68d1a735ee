/- A law for a range over a function at the widest fence: the caller's invariant needs to abide only what the loop's own bookkeeping does. -/
import Derived.RangeFuncNested
import Derived.RangeFuncBound
import Derived.RangeFuncCalls
import Derived.RangeFuncLeaves
import Derived.WalkKit
namespace Go.Proofs.Ytihfapnipifiiaa
open Go Go.RowKit

/-- Whatever is no cells and lies from B on lies as it lay. -/
def KeepsNC (B : Nat) (W W' : World) : Prop := ∀ r o, B ≤ r → W.heap[r]? = some o → o.isCells = false → W'.heap[r]? = some o
theorem KeepsNC.refl (B : Nat) (W : World) : KeepsNC B W W := fun _ _ _ h _ => h
theorem KeepsNC.trans {B : Nat} {A C D : World} (h : KeepsNC B A C) (k : KeepsNC B C D) : KeepsNC B A D := fun r o hr ho hc => k r o hr (h r o hr ho hc) hc
theorem KeepsNC.of_others {B : Nat} {W W' : World} (h : KeepsOthers W W') : KeepsNC B W W' := fun r o _ ho hc => h.same r o ho hc
theorem KeepsNC.below {B : Nat} {W W' : World} (h : Below W.heap.size W W') : KeepsNC B W W' := fun r o _ ho _ => by
  have hr : r < W.heap.size := (Array.getElem?_eq_some_iff.1 ho).1
  rw [h.block r hr, ho]

/-- How a round's body may be left. -/
def rngPost {α : Type} (B : Nat) (Kp : World → World → Prop) (I : List α → World → Prop) (Ix : Code → List α → World → Prop) (xs : List α) (W : World) : Exit → Act → World → Prop
  | .normal, _, W' => KeepsNC B W W' ∧ Kp W W' ∧ I xs W'
  | .ret, _, W' => KeepsNC B W W' ∧ Ix .ret xs W'
  | .exit id, _, W' => KeepsNC B W W' ∧ Ix (.exit id) xs W'
  | .goto t, _, W' => KeepsNC B W W' ∧ Ix (.goto t) xs W'
  | .panic _, _, _ => False
  | .outgrown, _, _ => False

/-- How an iterator's call may end. -/
def IterPost {α : Type} (J : List α → World → Prop) (Dn : List α → World → Prop) (Jx : List α → World → Prop) (e : Ending) (B : World) : Prop :=
  (∃ v, e = .returned v) ∧ ((∃ xs, J xs B ∧ Dn xs B) ∨ (∃ xs, Jx xs B))
theorem IterPost.done {α : Type} {J Dn Jx : List α → World → Prop} {v : Value} {B : World} {xs : List α} (h : J xs B) (hd : Dn xs B) : IterPost J Dn Jx (.returned v) B := ⟨⟨v, rfl⟩, .inl ⟨xs, h, hd⟩⟩
theorem IterPost.stop {α : Type} {J Dn Jx : List α → World → Prop} {v : Value} {B : World} {xs : List α} (h : Jx xs B) : IterPost J Dn Jx (.returned v) B := ⟨⟨v, rfl⟩, .inr ⟨xs, h⟩⟩

/-- What an iterator is: whatever a round's word is, its rounds come one by one; 'Pf': what may have come with the next one; 'It': the iterator's own steps between rounds; 'Kp': what a round that goes on keeps for it. -/
def Iter (P : Program) {α : Type} (gf : Nat) (lb : Array Value) (enc : α → Array Value) (Kp It : World → World → Prop) (Pf : List α → Prop) (Dn : List α → World → Prop) (W : World) : Prop :=
  ∀ (l : Nat) (J Jx : List α → World → Prop),
    J [] W →
    (∀ xs A B, J xs A → It A B → J xs B) →
    (∀ xs x A, J xs A → Pf (xs ++ [x]) → YieldAt Fence.wide 1 P l (enc x) A fun e B => (e = .returned (.bool true) ∧ J (xs ++ [x]) B ∧ Kp A B) ∨ (e = .returned (.bool false) ∧ Jx (xs ++ [x]) B)) →
    Calls P gf (#[.func (.yield l) #[] #[]] ++ lb) W (IterPost J Dn Jx)

variable {P : Program}
theorem wp_rangeFunc_mine {α : Type} {g : Operand} {ps : Array Tmp} {assign body : Code} {Q : Exit → Act → World → Prop} {a : Act} {w : World}
    {gf : Nat} {lb : Array Value} (hg : a.eval g = .func (.func gf) #[] lb) (eg : ∀ args w, (callFunc gf args).run P w = .ok (.enter gf args) w)
    {enc : α → Array Value} {Kp It : World → World → Prop} {Pf : List α → Prop} {Dn : List α → World → Prop}
    (hps : ∀ x, (enc x).size = ps.size)
    (I : List α → World → Prop) (Ix : Code → List α → World → Prop)
    (hiter : ∀ o1 o2 : Obj, o1.isCells = false → o2.isCells = false → Iter P gf lb enc Kp It Pf Dn ((w.alloc o1).alloc o2))
    (hKt : ∀ {A B C : World}, Kp A B → Kp B C → Kp A C)
    (hKb : ∀ (W : World) (r : Nat) (o o' : Obj), w.heap.size ≤ r → W.heap[r]? = some o → o.isCells = false → Kp W (W.putObj r o'))
    (hIt : ∀ A B r o, It A B → w.heap.size ≤ r → r < w.heap.size + 2 → A.heap[r]? = some o → o.isCells = false → B.heap[r]? = some o)
    (hIi : ∀ xs A B, I xs A → It A B → I xs B)
    (hI : ∀ xs (W : World) (r : Nat) (o o' : Obj), I xs W → w.heap.size ≤ r → W.heap[r]? = some o → o.isCells = false → I xs (W.putObj r o'))
    (hIx : ∀ c xs (W : World) (r : Nat) (o o' : Obj), Ix c xs W → w.heap.size ≤ r → W.heap[r]? = some o → o.isCells = false → Ix c xs (W.putObj r o'))
    (hDn : ∀ xs (W : World) (r : Nat) (o o' : Obj), Dn xs W → w.heap.size ≤ r → W.heap[r]? = some o → o.isCells = false → Dn xs (W.putObj r o'))
    (h0 : ∀ o1 o2 : Obj, o1.isCells = false → o2.isCells = false → I [] ((w.alloc o1).alloc o2)) (a₁ : α → Act)
    (hassign : ∀ (l : Nat) (x : α) (W : World) (K : Act → World → Prop), K (a₁ x) W →
      assign.wpIn (Fence.wide.inRound l) 1 P (Exit.then K (fun _ _ _ => False)) { tmps := (ps.zip (enc x)).foldl (fun t (p, v) => t.setIfInBounds p v) a.tmps, defers := [] } W)
    (hbody : ∀ (l : Nat) (xs : List α) (x : α) (W : World), I xs W → Pf (xs ++ [x]) → w.heap.size + 2 ≤ W.heap.size → body.wpIn (Fence.wide.inRound l) 1 P (rngPost w.heap.size Kp I Ix (xs ++ [x]) W) (a₁ x) W)
    (hdone : ∀ (D : Nat) (xs : List α) (W : World), D = w.heap.size → Dn xs W → I xs W → W.heap[D]? = some (.deferred (some [])) → Q .normal { a with defers := { target := .collected D, args := #[] } :: a.defers } W)
    (hstop : ∀ (D : Nat) (c : Code) (xs : List α) (W : World), D = w.heap.size → Ix c xs W → W.heap[D]? = some (.deferred (some [])) → c.wpIn Fence.wide 3 P Q { a with defers := { target := .collected D, args := #[] } :: a.defers } W) :
    (Code.rangeFunc g ps assign body).wpIn Fence.wide 3 P Q a w := by
  refine wpIn_rangeFunc ?_
  intro fn hfn
  obtain ⟨rec, hrec⟩ : ∃ rec : LoopState → Option Code → Loop, rec = fun st pe => { state := st, pending := pe, fn, tmps := a.tmps, params := ps, assign, body, defers := w.heap.size } := ⟨_, rfl⟩
  obtain ⟨W1, hW1⟩ : ∃ W1, (w.alloc (.deferred (some []))).alloc (.loop (rec .ready none)) = W1 := ⟨_, rfl⟩
  have hL1 : W1.heap[w.heap.size + 1]? = some (.loop (rec .ready none)) := by
    rw [← hW1]; have := World.alloc_heap_new (w.alloc (.deferred (some []))) (.loop (rec .ready none)); rwa [World.size_alloc] at this
  have hK1 : W1.heap[w.heap.size]? = some (.deferred (some [])) := by
    rw [← hW1]; exact (Below.heap_alloc _ _ _ (by simp)).trans (World.alloc_heap_new w _)
  have hI1 : I [] W1 := by rw [← hW1]; exact h0 _ _ rfl rfl
  have hS : Iter P gf lb enc Kp It Pf Dn W1 := by rw [← hW1]; exact hiter _ _ rfl rfl
  refine ⟨w.heap.size + 1, [{ target := .collected w.heap.size, args := #[] }], W1, { target := .fn (.func gf) lb, args := #[.func (.yield (w.heap.size + 1)) #[] #[]] }, W1, gf,
    #[.func (.yield (w.heap.size + 1)) #[] #[]] ++ lb, W1, ?_, ?_, ?_, ?_, fun h => by simp [Fence.wide] at h, ?_⟩
  · rw [← hW1, hrec]; exact run_enterLoop_outer _ _ _ _ _
  · simp only [resolve, hg]
    simp [go_sem]
  · intro f' hf'; trivial
  · simp [invoke, go_sem, eg]
  · refine callsIn_wide.2 ?_
    refine (hS (w.heap.size + 1)
      (fun xs W => I xs W ∧ W.heap[w.heap.size + 1]? = some (.loop (rec .ready none)) ∧ W.heap[w.heap.size]? = some (.deferred (some [])))
      (fun xs W => ∃ c, Ix c xs W ∧ W.heap[w.heap.size + 1]? = some (.loop (rec .done (some c))) ∧ W.heap[w.heap.size]? = some (.deferred (some [])))
      ⟨hI1, hL1, hK1⟩
      (fun xs A B hs hit => ⟨hIi xs A B hs.1 hit, hIt A B _ _ hit (by omega) (by omega) hs.2.1 rfl, hIt A B _ _ hit (by omega) (by omega) hs.2.2 rfl⟩)
      ?_).mono ?_
    · rintro xs x W ⟨hi, hl, hk⟩ hpf
      have hlt : w.heap.size + 1 < W.heap.size := (Array.getElem?_eq_some_iff.1 hl).1
      have hy := run_yield (P := P) (args := enc x) hl (by rw [hrec]; exact hps x)
      rw [hrec] at hy
      refine ⟨fn, _, assign, body, hy, roundIn_of_wpIn hfn (hassign _ x W _ ⟨_, run_beginRound hl (by rw [hrec]), ?_⟩)⟩
      have hl2 : (W.putObj (w.heap.size + 1) (.loop { rec .ready none with state := .busy })).heap[w.heap.size + 1]? = some (.loop { rec .ready none with state := .busy }) := World.putObj_heap_same hlt
      have hk2 : (W.putObj (w.heap.size + 1) (.loop { rec .ready none with state := .busy })).heap[w.heap.size]? = some (.deferred (some [])) := (World.putObj_heap_other (by omega)).trans hk
      have hw2 : Kp W (W.putObj (w.heap.size + 1) (.loop { rec .ready none with state := .busy })) := hKb _ _ _ _ (by omega) hl rfl
      refine wpIn_mono (hbody _ xs x _ (hI _ _ _ _ _ hi (by omega) hl rfl) hpf (by simp; omega)) ?_
      have fin : ∀ (jump : Option Code) (W3 : World), KeepsNC w.heap.size (W.putObj (w.heap.size + 1) (.loop { rec .ready none with state := .busy })) W3 →
          (Instr.endRound (w.heap.size + 1) jump).run P W3 = .ok (.bool jump.isNone) (W3.putObj (w.heap.size + 1) (.loop (rec (if jump.isNone then .ready else .done) jump))) ∧
          W3.heap[w.heap.size + 1]? = some (.loop { rec .ready none with state := .busy }) ∧
          (W3.putObj (w.heap.size + 1) (.loop (rec (if jump.isNone then .ready else .done) jump))).heap[w.heap.size + 1]? = some (.loop (rec (if jump.isNone then .ready else .done) jump)) ∧
          (W3.putObj (w.heap.size + 1) (.loop (rec (if jump.isNone then .ready else .done) jump))).heap[w.heap.size]? = some (.deferred (some [])) := fun jump W3 hk3 => by
        have hl3 := hk3 _ _ (by omega) hl2 rfl
        have := run_endRound (P := P) jump hl3
        rw [hrec] at this ⊢
        exact ⟨this, by rw [hrec] at hl3; exact hl3, World.putObj_heap_same (Array.getElem?_eq_some_iff.1 hl3).1, (World.putObj_heap_other (by omega)).trans (hk3 _ _ (by omega) hk2 rfl)⟩
      rintro e a3 W3 hp
      cases e with
      | normal =>
        obtain ⟨hk3, hkp3, hi3⟩ := hp
        obtain ⟨hr, hl3, hl4, hk4⟩ := fin none W3 hk3
        exact ⟨_, _, hr, .inl ⟨rfl, ⟨hI _ _ _ _ _ hi3 (by omega) hl3 rfl, hl4, hk4⟩, hKt (hKt hw2 hkp3) (hKb _ _ _ _ (by omega) hl3 rfl)⟩⟩
      | ret =>
        obtain ⟨hk3, hi3⟩ := hp
        obtain ⟨hr, hl3, hl4, hk4⟩ := fin (some .ret) W3 hk3
        exact ⟨_, _, hr, .inr ⟨rfl, .ret, hIx _ _ _ _ _ _ hi3 (by omega) hl3 rfl, hl4, hk4⟩⟩
      | exit id =>
        obtain ⟨hk3, hi3⟩ := hp
        obtain ⟨hr, hl3, hl4, hk4⟩ := fin (some (.exit id)) W3 hk3
        exact ⟨_, _, hr, .inr ⟨rfl, .exit id, hIx _ _ _ _ _ _ hi3 (by omega) hl3 rfl, hl4, hk4⟩⟩
      | goto t =>
        obtain ⟨hk3, hi3⟩ := hp
        obtain ⟨hr, hl3, hl4, hk4⟩ := fin (some (.goto t)) W3 hk3
        exact ⟨_, _, hr, .inr ⟨rfl, .goto t, hIx _ _ _ _ _ _ hi3 (by omega) hl3 rfl, hl4, hk4⟩⟩
      | panic ch => exact hp.elim
      | outgrown => exact hp.elim
    · rintro e W2 ⟨⟨v, rfl⟩, (⟨xs, ⟨hi, hl, hk⟩, hd⟩ | ⟨xs, c, hi, hl, hk⟩)⟩
      · exact ⟨none, _, by have := run_endLoop (P := P) hl (by rw [hrec]; simp); rw [hrec] at this; exact this, hdone _ xs _ rfl (hDn _ _ _ _ _ hd (by omega) hl rfl) (hI _ _ _ _ _ hi (by omega) hl rfl) ((World.putObj_heap_other (by omega)).trans hk)⟩
      · exact ⟨some c, _, by have := run_endLoop (P := P) hl (by rw [hrec]; simp); rw [hrec] at this; exact this, hstop _ c xs _ rfl (hIx _ _ _ _ _ _ hi (by omega) hl rfl) ((World.putObj_heap_other (by omega)).trans hk)⟩
end Go.Proofs.Ytihfapnipifiiaa
