/- What package name and its reference compute, as plain functions on lists of bytes. -/
import Derived.WalkKit
namespace Go.Proofs.Ytihfapnipifiiaa
open Go.RowKit

/-- A string of a list of bytes. -/
def bs (l : List UInt8) : ByteArray := ⟨l.toArray⟩
/-- A string's bytes. -/
def lst (s : ByteArray) : List UInt8 := s.data.toList
theorem lst_bs (l : List UInt8) : lst (bs l) = l := by simp [lst, bs]
theorem bs_lst (s : ByteArray) : bs (lst s) = s := by
  cases s with
  | mk d => show ByteArray.mk d.toList.toArray = ByteArray.mk d; rw [Array.toArray_toList]
theorem lst_length (s : ByteArray) : (lst s).length = s.size := by
  unfold lst ByteArray.size; exact Array.length_toList
theorem bs_size (l : List UInt8) : (bs l).size = l.length := by
  unfold bs ByteArray.size; exact List.size_toArray
theorem bs_inj {a b : List UInt8} (h : bs a = bs b) : a = b := by rw [← lst_bs a, h, lst_bs]
theorem lst_inj {a b : ByteArray} (h : lst a = lst b) : a = b := by rw [← bs_lst a, h, bs_lst]

/-- The labels of a row that ends with the byte 0. -/
def lab : List UInt8 → Option (List (List UInt8))
  | [] => none
  | c :: r =>
    if c = 0 then (if r = [] then some [] else none)
    else if 63 < c.toNat ∨ r.length < c.toNat then none
    else (lab (r.drop c.toNat)).map (r.take c.toNat :: ·)
termination_by l => l.length
decreasing_by simp only [List.length_drop, List.length_cons]; omega

theorem lab_nil : lab [] = none := by rw [lab]
theorem lab_zero {l : List UInt8} {k : Nat} (h : l[k]? = some 0) : lab (l.drop k) = if k + 1 = l.length then some [] else none := by
  have hk : k < l.length := by
    rcases Nat.lt_or_ge k l.length with h' | h'
    · exact h'
    · rw [List.getElem?_eq_none h'] at h; cases h
  have e : l.drop k = 0 :: l.drop (k + 1) := by
    rw [List.drop_eq_getElem_cons hk]; congr 1
    rw [List.getElem?_eq_getElem hk] at h; exact Option.some.inj h
  rw [e, lab, if_pos rfl]
  by_cases h2 : k + 1 = l.length
  · rw [if_pos h2, if_pos (by rw [h2]; simp)]
  · rw [if_neg h2, if_neg (by intro h3; have := congrArg List.length h3; simp at this; omega)]
theorem lab_end {l : List UInt8} {k : Nat} (h : l.length ≤ k) : lab (l.drop k) = none := by rw [List.drop_eq_nil_of_le h, lab_nil]
theorem lab_bad {l : List UInt8} {k : Nat} {c : UInt8} (h : l[k]? = some c) (h0 : c ≠ 0) (hb : 63 < c.toNat ∨ l.length < k + 1 + c.toNat) : lab (l.drop k) = none := by
  have hk : k < l.length := by
    rcases Nat.lt_or_ge k l.length with h' | h'
    · exact h'
    · rw [List.getElem?_eq_none h'] at h; cases h
  have e : l.drop k = c :: l.drop (k + 1) := by
    rw [List.drop_eq_getElem_cons hk]; congr 1
    rw [List.getElem?_eq_getElem hk] at h; exact Option.some.inj h
  rw [e, lab, if_neg h0, if_pos]
  rcases hb with hb | hb
  · exact .inl hb
  · right; simp; omega
theorem lab_step {l : List UInt8} {k : Nat} {c : UInt8} (h : l[k]? = some c) (h0 : c ≠ 0) (h1 : c.toNat ≤ 63) (h2 : k + 1 + c.toNat ≤ l.length) :
    lab (l.drop k) = (lab (l.drop (k + 1 + c.toNat))).map ((l.drop (k + 1)).take c.toNat :: ·) := by
  have hk : k < l.length := by omega
  have e : l.drop k = c :: l.drop (k + 1) := by
    rw [List.drop_eq_getElem_cons hk]; congr 1
    rw [List.getElem?_eq_getElem hk] at h; exact Option.some.inj h
  rw [e, lab, if_neg h0, if_neg (by simp; omega), List.drop_drop]

/-- The places and lengths of the labels of a row from place k on (l: what stands from there on), and where it ends; below 0: it is none. -/
def scan : List UInt8 → Nat → List (Nat × Nat) × Int
  | [], k => ([], k)
  | c :: r, k =>
    if c = 0 then ([], k)
    else if 63 < c.toNat ∨ r.length < c.toNat then ([], -1)
    else ((k, c.toNat) :: (scan (r.drop c.toNat) (k + 1 + c.toNat)).1, (scan (r.drop c.toNat) (k + 1 + c.toNat)).2)
termination_by l => l.length
decreasing_by all_goals (simp only [List.length_drop, List.length_cons]; omega)

theorem drop_cons {l : List UInt8} {k : Nat} {c : UInt8} (h : l[k]? = some c) : l.drop k = c :: l.drop (k + 1) := by
  have hk : k < l.length := by
    rcases Nat.lt_or_ge k l.length with h' | h'
    · exact h'
    · rw [List.getElem?_eq_none h'] at h; cases h
  rw [List.drop_eq_getElem_cons hk]; congr 1
  rw [List.getElem?_eq_getElem hk] at h; exact Option.some.inj h
theorem scan_end {l : List UInt8} {k : Nat} (h : l.length ≤ k) : scan (l.drop k) k = ([], (k : Int)) := by rw [List.drop_eq_nil_of_le h, scan]
theorem scan_zero {l : List UInt8} {k : Nat} (h : l[k]? = some 0) : scan (l.drop k) k = ([], (k : Int)) := by rw [drop_cons h, scan, if_pos rfl]
theorem scan_bad {l : List UInt8} {k : Nat} {c : UInt8} (h : l[k]? = some c) (h0 : c ≠ 0) (hb : 63 < c.toNat ∨ l.length < k + 1 + c.toNat) : scan (l.drop k) k = ([], -1) := by
  have hk : k < l.length := by
    rcases Nat.lt_or_ge k l.length with h' | h'
    · exact h'
    · rw [List.getElem?_eq_none h'] at h; cases h
  rw [drop_cons h, scan, if_neg h0, if_pos]
  rcases hb with hb | hb
  · exact .inl hb
  · right; simp; omega
theorem scan_step {l : List UInt8} {k : Nat} {c : UInt8} (h : l[k]? = some c) (h0 : c ≠ 0) (h1 : c.toNat ≤ 63) (h2 : k + 1 + c.toNat ≤ l.length) :
    scan (l.drop k) k = ((k, c.toNat) :: (scan (l.drop (k + 1 + c.toNat)) (k + 1 + c.toNat)).1, (scan (l.drop (k + 1 + c.toNat)) (k + 1 + c.toNat)).2) := by
  rw [drop_cons h, scan, if_neg h0, if_neg (by simp; omega), List.drop_drop]

/-- What 'scan' and 'lab' say of one row. -/
theorem scan_lab (l : List UInt8) : ∀ n k, l.length - k = n → k ≤ l.length →
    (lab (l.drop k) = if (scan (l.drop k) k).2 = (l.length : Int) - 1 ∧ 0 ≤ (scan (l.drop k) k).2 then some ((scan (l.drop k) k).1.map fun p => (l.drop (p.1 + 1)).take p.2) else none) ∧ -1 ≤ (scan (l.drop k) k).2 ∧ (scan (l.drop k) k).2 ≤ l.length ∧ ((scan (l.drop k) k).1.length : Nat) ≤ l.length - k := by
  intro n
  induction n using Nat.strongRecOn with
  | _ n ih =>
    intro k hn hk
    cases hg : l[k]? with
    | none =>
      have hk' : l.length ≤ k := by rw [List.getElem?_eq_none_iff] at hg; exact hg
      rw [lab_end hk', scan_end hk']
      refine ⟨?_, by simp only; omega, by simp only; omega, by simp⟩
      rw [if_neg (by simp only; omega)]
    | some c =>
      have hk' : k < l.length := by
        rcases Nat.lt_or_ge k l.length with h' | h'
        · exact h'
        · rw [List.getElem?_eq_none h'] at hg; cases hg
      by_cases h0 : c = 0
      · subst h0
        rw [lab_zero hg, scan_zero hg]
        refine ⟨?_, by simp only; omega, by simp only; omega, by simp⟩
        by_cases e : k + 1 = l.length
        · rw [if_pos e, if_pos (by simp only; omega)]; simp
        · rw [if_neg e, if_neg (by simp only; omega)]
      · by_cases hb : 63 < c.toNat ∨ l.length < k + 1 + c.toNat
        · rw [lab_bad hg h0 hb, scan_bad hg h0 hb]
          refine ⟨?_, by simp only; omega, by simp only; omega, by simp⟩
          rw [if_neg (by simp only; omega)]
        · have h1 : c.toNat ≤ 63 := by omega
          have h2 : k + 1 + c.toNat ≤ l.length := by omega
          rw [lab_step hg h0 h1 h2, scan_step hg h0 h1 h2]
          obtain ⟨i1, i2, i3, i4⟩ := ih (l.length - (k + 1 + c.toNat)) (by omega) (k + 1 + c.toNat) rfl h2
          refine ⟨?_, i2, i3, by simp; omega⟩
          rw [i1]
          simp only
          split <;> simp

theorem lab_of_scan (l : List UInt8) : lab l = if (scan l 0).2 = (l.length : Int) - 1 ∧ 0 ≤ (scan l 0).2 then some ((scan l 0).1.map fun p => (l.drop (p.1 + 1)).take p.2) else none := by
  have := (scan_lab l l.length 0 (by omega) (by omega)).1
  simpa using this
theorem scan_le (l : List UInt8) : -1 ≤ (scan l 0).2 ∧ (scan l 0).2 ≤ l.length ∧ (scan l 0).1.length ≤ l.length := by
  have := (scan_lab l l.length 0 (by omega) (by omega)).2
  simpa using this

/-- What 'Check' answers. -/
def chk (l : List UInt8) : Int := if (lab l).isNone then 10 else if l.length > 255 then 11 else 0
theorem chk_none {l : List UInt8} (h : lab l = none) : chk l = 10 := by unfold chk; rw [h]; rfl
theorem chk_big {l : List UInt8} {ls : List (List UInt8)} (h : lab l = some ls) (hb : 255 < l.length) : chk l = 11 := by
  unfold chk; rw [h, if_neg (by simp), if_pos hb]
theorem chk_ok {l : List UInt8} {ls : List (List UInt8)} (h : lab l = some ls) (hb : l.length ≤ 255) : chk l = 0 := by
  unfold chk; rw [h, if_neg (by simp), if_neg (by omega)]
theorem chk_zero {l : List UInt8} (h : chk l = 0) : (∃ ls, lab l = some ls) ∧ l.length ≤ 255 := by
  unfold chk at h
  cases hl : lab l with
  | none => rw [hl] at h; simp at h
  | some ls =>
    rw [hl] at h
    simp only [Option.isNone_some, Bool.false_eq_true, if_false] at h
    refine ⟨⟨ls, rfl⟩, ?_⟩
    split at h
    · cases h
    · omega

theorem lab_len {l : List UInt8} (ls : List (List UInt8)) (h : lab l = some ls) : ls.length ≤ l.length := by
  rw [lab_of_scan] at h
  split at h
  · cases h
    have := (scan_le l).2.2
    simpa using this
  · cases h

theorem lab_mem : ∀ (n : Nat) (l : List UInt8) (ls : List (List UInt8)), l.length = n → lab l = some ls → ∀ x ∈ ls, 1 ≤ x.length ∧ x.length ≤ 63 := by
  intro n
  induction n using Nat.strongRecOn with
  | _ n ih =>
    intro l ls hl h
    cases l with
    | nil => rw [lab_nil] at h; cases h
    | cons c r =>
      rw [lab] at h
      by_cases h0 : c = 0
      · rw [if_pos h0] at h
        split at h
        · cases h; intro x hx; cases hx
        · cases h
      · rw [if_neg h0] at h
        have hc : 1 ≤ c.toNat := by
          rcases Nat.eq_zero_or_pos c.toNat with e | e
          · exact absurd (UInt8.toNat_inj.1 (by rw [e]; rfl)) h0
          · exact e
        split at h
        · cases h
        · rename_i hb
          cases hd : lab (r.drop c.toNat) with
          | none => rw [hd] at h; cases h
          | some ms =>
            rw [hd] at h; cases h
            intro x hx
            rcases List.mem_cons.1 hx with rfl | hx
            · rw [List.length_take]; omega
            · exact ih (r.drop c.toNat).length (by simp only [List.length_drop, List.length_cons] at hl ⊢; omega) _ _ rfl hd x hx
theorem lab_getD {l : List UInt8} {ls : List (List UInt8)} (h : lab l = some ls) (i : Nat) : (ls.getD i []).length ≤ 63 := by
  rw [List.getD_eq_getElem?_getD]
  cases hi : ls[i]? with
  | none => simp
  | some x => exact (lab_mem _ l ls rfl h x (List.mem_of_getElem? hi)).2
/-- A byte with a small letter. -/
def lowB (c : UInt8) : UInt8 := if 65 ≤ c ∧ c ≤ 90 then c + 32 else c
def low (l : List UInt8) : List UInt8 := l.map lowB
end Go.Proofs.Ytihfapnipifiiaa
