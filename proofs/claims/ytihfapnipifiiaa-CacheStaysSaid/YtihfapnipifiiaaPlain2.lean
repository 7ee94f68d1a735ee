/- Plain facts on the statements' own entries: an A of a name of one letter. -/
import Derived.Test.YtihfapnipifiiaaMach
namespace Go.Proofs.Ytihfapnipifiiaa
open Go Go.RowKit Go.Shelf

/-- An A of a name of one letter. -/
def rrE (b : UInt8) : RRec := ⟨[1, b, 0], 1, 1, 0, [1, 2, 3, 4]⟩
def entE (b : UInt8) (til rank source : Int) : Ent := ⟨1, [1, b, 0], 1, 1, [rrE b], til, rank, 0, source⟩

theorem lab_one (b : UInt8) : lab [1, b, 0] = some [[b]] := by
  rw [lab, if_neg (by simp), if_neg (by simp)]
  show Option.map _ (lab ([b, 0].drop 1)) = _
  show Option.map _ (lab [0]) = _
  rw [lab, if_pos rfl, if_pos rfl]
  rfl
theorem chk_one (b : UInt8) : chk [1, b, 0] = 0 := chk_ok (lab_one b) (by simp)
theorem same_one (b : UInt8) : sameN [1, b, 0] [1, b, 0] = true := by unfold sameN; rw [chk_one]; simp
theorem rchk_one (b : UInt8) : rchk [1, b, 0] 1 [1, 2, 3, 4] = 0 := by
  unfold rchk
  rw [chk_one, if_neg (by simp), if_neg (by decide)]
  rfl
theorem cchk_one (b : UInt8) {til rank source : Int} (h0 : 0 ≤ til) (h1 : til ≤ 1125899906842624) (r0 : 1 ≤ rank) (r1 : rank ≤ 4) : cchk (entE b til rank source) = 0 := by
  have e1 : headOk (entE b til rank source) = true := by
    unfold headOk within entE
    dsimp only
    rw [chk_one, decide_eq_true h0, decide_eq_true h1, decide_eq_true r0, decide_eq_true r1]
    simp
  have e2 : lenOk (entE b til rank source) = true := by
    unfold lenOk within entE
    dsimp only [List.length_cons, List.length_nil]
    simp
  have e3 : (entE b til rank source).recs.all (recOk (entE b til rank source)) = true := by
    show ([rrE b].all (recOk (entE b til rank source))) = true
    rw [List.all_cons, List.all_nil, Bool.and_true]
    unfold recOk mayR entE rrE
    dsimp only
    rw [rchk_one, same_one]
    simp
  unfold cchk
  rw [e1, e2, e3]; rfl
theorem key_one' (b : UInt8) (til rank source : Int) : (entE b til rank source).key = keyL 0 [1, b, 0] 1 1 := by
  unfold Ent.key
  exact if_neg (show ¬ ((1 : Int) = 3) by decide)
theorem keyL_one {a b : UInt8} : keyL 0 [1, a, 0] 1 1 = keyL 0 [1, b, 0] 1 1 ↔ lowB a = lowB b := by
  unfold keyL low
  constructor
  · intro h
    have h1 : (([0] ++ [1, a, 0].map lowB ++ two8 1 ++ two8 1) : List UInt8)[2]? = (([0] ++ [1, b, 0].map lowB ++ two8 1 ++ two8 1) : List UInt8)[2]? := by rw [h]
    exact Option.some.inj h1
  · intro h
    simp only [List.map_cons, h]
theorem entIn_one (b : UInt8) (til rank source : Int) : EntIn (entE b til rank source) where
  name := by show 3 ≤ 1048576; decide
  recs := by
    intro r hr
    have : r = rrE b := by simpa [entE] using hr
    subst this
    refine ⟨?_, by show 3 ≤ 1048576; decide, by show 4 ≤ 1048576; decide⟩
    constructor <;> (show _ ≤ _; simp [rrE])
  t0 := by show (0 : Int) ≤ 1; decide
  t1 := by show (1 : Int) ≤ 65535; decide
  c0 := by show (0 : Int) ≤ 1; decide
  c1 := by show (1 : Int) ≤ 65535; decide
/-- An entry that may be goes in where none stands in its way. -/
theorem putB_true {e : Ent} {now : Int} {L : List Ent} (hc : cchk e = 0) (ht : now ≤ e.til) (h : ∀ x ∈ L, x.key = e.key → now ≤ x.til → x.rank ≤ e.rank) : putB e now L = true := by
  unfold putB
  rw [decide_eq_true hc, decide_eq_true ht]
  have : (L.any fun x => x.key == e.key && decide (now ≤ x.til) && decide (e.rank < x.rank)) = false := by
    rw [List.any_eq_false]
    intro x hx
    by_cases h1 : x.key = e.key
    · by_cases h2 : now ≤ x.til
      · have := h x hx h1 h2
        simp [h1, h2]; omega
      · simp [h2]
    · simp [h1]
  rw [this]; rfl
theorem putB_false {e : Ent} {now : Int} {L : List Ent} {x : Ent} (hx : x ∈ L) (hk : x.key = e.key) (ht : now ≤ x.til) (hr : e.rank < x.rank) : putB e now L = false := by
  unfold putB
  have : (L.any fun x => x.key == e.key && decide (now ≤ x.til) && decide (e.rank < x.rank)) = true := by
    rw [List.any_eq_true]
    exact ⟨x, hx, by simp [hk, ht, hr]⟩
  rw [this]; simp
/-- Never more than there may be. -/
theorem putL_most {most now : Int} {e : Ent} {L : List Ent} (h : (L.length : Int) ≤ max most 1) : ((putL most now e L).length : Int) ≤ max most 1 := by
  have h1 : (put1 e L).length ≤ L.length + 1 := by
    unfold put1
    have := List.length_filter_le (fun y : Ent => y.key != e.key) L
    simp; omega
  have h2 : ∀ M : List Ent, (put2 most now M).length ≤ M.length := by
    intro M; unfold put2; split
    · exact List.length_filter_le _ _
    · exact Nat.le_refl _
  have := h2 (put1 e L)
  unfold putL put3
  split
  · rw [List.length_tail]; omega
  · omega
theorem putR_most {most now : Int} {e : Ent} {L : List Ent} (h : (L.length : Int) ≤ max most 1) : ((putR most now e L).length : Int) ≤ max most 1 := by
  unfold putR; split
  · exact putL_most h
  · exact h
theorem getE_nil {k : List UInt8} {now : Int} {L : List Ent} (h : ∀ x ∈ L, x.key ≠ k ∨ x.til < now) : getE k now L = none := getE_none (fun x hx e => (h x hx).elim (fun q => absurd e q) id)
theorem lstA : keyL 0 (lst (⟨#[1, 65, 0]⟩ : ByteArray)) 1 1 = keyL 0 [1, 97, 0] 1 1 := rfl
theorem lsta : keyL 0 (lst (⟨#[1, 97, 0]⟩ : ByteArray)) 1 1 = keyL 0 [1, 97, 0] 1 1 := rfl
theorem key_ne {a b : UInt8} (h : lowB a ≠ lowB b) (t1 r1 s1 t2 r2 s2 : Int) : (entE a t1 r1 s1).key ≠ (entE b t2 r2 s2).key := by
  rw [key_one', key_one']
  exact fun q => h (keyL_one.1 q)
theorem key_ne' {a b : UInt8} (h : lowB a ≠ lowB b) (t1 r1 s1 : Int) : (entE a t1 r1 s1).key ≠ keyL 0 [1, b, 0] 1 1 := by
  rw [key_one']
  exact fun q => h (keyL_one.1 q)
/-- A put of an entry of another key, where there is room. -/
theorem putR_room {most now : Int} {e : Ent} {L : List Ent} (hp : putB e now L = true) (hk : ∀ x ∈ L, x.key ≠ e.key) (hl : (L.length : Int) < max most 1) : putR most now e L = L ++ [e] := by
  have h1 : put1 e L = L ++ [e] := by
    unfold put1
    rw [List.filter_eq_self.2 (fun x hx => bne_iff_ne.2 (hk x hx))]
  have h2 : ¬ max most 1 < ((L ++ [e]).length : Int) := by simp; omega
  unfold putR putL put3 put2
  rw [if_pos hp, h1, if_neg h2, if_neg h2]
/-- .. where there is none, and nothing is stale. -/
theorem putR_full {most now : Int} {e : Ent} {L : List Ent} (hp : putB e now L = true) (hk : ∀ x ∈ L, x.key ≠ e.key) (hl : (L.length : Int) = max most 1) (ht : ∀ x ∈ L, now ≤ x.til) (he : now ≤ e.til) : putR most now e L = (L ++ [e]).tail := by
  have h1 : put1 e L = L ++ [e] := by
    unfold put1
    rw [List.filter_eq_self.2 (fun x hx => bne_iff_ne.2 (hk x hx))]
  have h2 : max most 1 < ((L ++ [e]).length : Int) := by simp; omega
  have h3 : (L ++ [e]).filter (fun y => decide (now ≤ y.til)) = L ++ [e] := by
    rw [List.filter_eq_self]
    intro x hx
    rw [List.mem_append] at hx
    rcases hx with hx | hx
    · exact decide_eq_true (ht x hx)
    · rw [List.mem_singleton.1 hx]; exact decide_eq_true he
  unfold putR putL put3 put2
  rw [if_pos hp, h1, if_pos h2, h3, if_pos h2]
theorem putR_no {most now : Int} {e : Ent} {L : List Ent} (hp : putB e now L = false) : putR most now e L = L := by
  unfold putR; rw [if_neg (by rw [hp]; simp)]
theorem getE_at {k : List UInt8} {now : Int} {e : Ent} {s t : List Ent} (hs : ∀ x ∈ s, x.key ≠ k) (hk : e.key = k) (ht : now ≤ e.til) : getE k now (s ++ e :: t) = some e := by
  unfold getE
  rw [List.find?_append]
  have h1 : s.find? (fun e => e.key == k && decide (now ≤ e.til)) = none := by
    rw [List.find?_eq_none]
    intro x hx
    simp [hs x hx]
  rw [h1, List.find?_cons_of_pos (by simp [hk, ht])]; rfl
theorem getL_at {k : List UInt8} {now : Int} {e : Ent} {s t : List Ent} (hs : ∀ x ∈ s, x.key ≠ k) (hk : e.key = k) (ht : now ≤ e.til) (hq : ∀ x ∈ t, x.key ≠ k) : getL k now (s ++ e :: t) = s ++ t ++ [e] := by
  unfold getL
  rw [getE_at hs hk ht]
  show (s ++ e :: t).filter (fun y => y.key != k) ++ [e] = _
  rw [List.filter_append, List.filter_cons_of_neg (by simp [hk]), List.filter_eq_self.2 (fun x hx => bne_iff_ne.2 (hs x hx)), List.filter_eq_self.2 (fun x hx => bne_iff_ne.2 (hq x hx))]
end Go.Proofs.Ytihfapnipifiiaa
