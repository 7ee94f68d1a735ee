/- What package record and its reference compute, as plain functions on lists of bytes. -/
import Derived.Test.YtihfapnipifiiaaSpec
namespace Go.Proofs.Ytihfapnipifiiaa

/-- How far the lengths lead from a row's begin on. -/
def skip : List UInt8 → Nat
  | [] => 0
  | c :: r => if c = 0 then 0 else 1 + c.toNat + skip (r.drop c.toNat)
termination_by l => l.length
decreasing_by simp only [List.length_drop, List.length_cons]; omega
theorem skip_nil : skip [] = 0 := by rw [skip]
theorem skip_end {l : List UInt8} {k : Nat} (h : l.length ≤ k) : skip (l.drop k) = 0 := by rw [List.drop_eq_nil_of_le h, skip_nil]
theorem skip_zero {l : List UInt8} {k : Nat} (h : l[k]? = some 0) : skip (l.drop k) = 0 := by rw [drop_cons h, skip, if_pos rfl]
theorem skip_step {l : List UInt8} {k : Nat} {c : UInt8} (h : l[k]? = some c) (h0 : c ≠ 0) : skip (l.drop k) = 1 + c.toNat + skip (l.drop (k + 1 + c.toNat)) := by
  rw [drop_cons h, skip, if_neg h0, List.drop_drop]

/-- A name at the begin, and what stands behind it. -/
def firstN (l : List UInt8) : Option (List UInt8 × List UInt8) :=
  if skip l < l.length ∧ chk (l.take (skip l + 1)) = 0 then some (l.take (skip l + 1), l.drop (skip l + 1)) else none
/-- So many names, one behind the other, and what stands behind them. -/
def takeN : Nat → List UInt8 → Option (List (List UInt8) × List UInt8)
  | 0, l => some ([], l)
  | n + 1, l => match takeN n l with
    | none => none
    | some (ns, r) => match firstN r with
      | none => none
      | some (x, r') => some (ns ++ [x], r')
/-- How the data of a type are: so many bytes, so many names, so many bytes. -/
def shapeL (t : Int) : Nat × Nat × Nat := if t = 2 ∨ t = 5 ∨ t = 12 then (0, 1, 0) else if t = 15 then (2, 1, 0) else if t = 6 then (0, 2, 20) else (0, 0, 0)
/-- The names in data, and what stands behind them. -/
def cutL (h : Nat × Nat × Nat) (d : List UInt8) : Option (List (List UInt8) × List UInt8) := if d.length < h.1 then none else takeN h.2.1 (d.drop h.1)
def cutOk (h : Nat × Nat × Nat) (d : List UInt8) : Bool := match cutL h d with
  | none => false
  | some (_, r) => decide (r.length = h.2.2)
/-- Where the lengths of a text's pieces lead. -/
def pieces : List UInt8 → Nat
  | [] => 0
  | c :: r => 1 + c.toNat + pieces (r.drop c.toNat)
termination_by l => l.length
decreasing_by simp only [List.length_drop, List.length_cons]; omega
theorem pieces_end {l : List UInt8} {k : Nat} (h : l.length ≤ k) : pieces (l.drop k) = 0 := by rw [List.drop_eq_nil_of_le h, pieces]
theorem pieces_step {l : List UInt8} {k : Nat} {c : UInt8} (h : l[k]? = some c) : pieces (l.drop k) = 1 + c.toNat + pieces (l.drop (k + 1 + c.toNat)) := by
  rw [drop_cons h, pieces, List.drop_drop]
/-- Are data right for a type? -/
def rightL (t : Int) (d : List UInt8) : Bool :=
  if t = 1 then decide (d.length = 4) else if t = 28 then decide (d.length = 16) else if t = 16 then decide (pieces d = d.length) && decide (0 < d.length)
  else cutOk (shapeL t) d || decide (shapeL t = (0, 0, 0))
/-- What record.Check answers. -/
def rchk (n : List UInt8) (t : Int) (d : List UInt8) : Int := if chk n ≠ 0 then chk n else if 2000 < d.length then 11 else if rightL t d then 0 else 10
end Go.Proofs.Ytihfapnipifiiaa
