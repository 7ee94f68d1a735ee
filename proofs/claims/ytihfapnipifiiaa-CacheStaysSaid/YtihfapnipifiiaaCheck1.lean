/- The walks of package cache: within, Check's closures, Check. -/
import Derived.Test.YtihfapnipifiiaaItem
namespace Go.Proofs.Ytihfapnipifiiaa
open Go Go.RowKit Go.Shelf

def within (a b c : Int) : Bool := decide (b ≤ a) && decide (a ≤ c)
theorem within_any (a b c : Int) (w : World) :
    Calls Try.prog 47 #[.int .i64 a, .int .i64 b, .int .i64 c] w fun e w' => e = .returned (.bool (within a b c)) ∧ w = w' := by
  by_cases h : b ≤ a
  · go_enter Try.func47, Try.ntmps47
    go_wp2
    go_ret
    exact ⟨by unfold within; rw [decide_eq_true h]; rfl, rfl⟩
  · go_enter Try.func47, Try.ntmps47
    go_wp2
    go_ret
    exact ⟨by unfold within; rw [decide_eq_false (by omega)]; rfl, rfl⟩

theorem may1_any (r : RRec) (w : World) :
    Calls Try.prog 49 #[r.val] w fun e w' => e = .returned (.bool (decide (r.t = 6))) ∧ Below w.heap.size w w' := by
  unfold RRec.val
  go_enter Try.func49, Try.ntmps49
  go_wp2
  go_ret
  refine ⟨?_, (Below.refl _ w).alloc (Nat.le_refl _) _⟩
  show Ending.returned (.bool (r.t == 6)) = _
  congr 2

set_option maxRecDepth 100000 in
theorem may2_any (r : RRec) (eb : Nat) (et : Int) (en : List UInt8) (w : World) (h1 : w.cell? ⟨eb, 1, none⟩ = some (.string (bs en))) (h2 : w.cell? ⟨eb, 2, none⟩ = some (.int .u16 et)) (hn : r.name.length ≤ 1048576) (hm : en.length ≤ 1048576) :
    Calls Try.prog 50 #[r.val, .pointer (some ⟨eb, 0, none⟩)] w fun e w' => e = .returned (.bool (decide (r.t = et) && sameN r.name en)) ∧ Below w.heap.size w w' := by
  have hlt := blk_of_cell h1
  dsimp only at hlt
  unfold RRec.val
  by_cases h : r.t = et
  · have hb : (r.t == et) = true := beq_iff_eq.2 h
    have H := Lib.hid h
    clear h
    go_enter Try.func50, Try.ntmps50
    go_wp2_with fail
    refine (same_any (bs r.name) (bs en) _ (by rw [bs_size]; omega) (by rw [bs_size]; omega)).mono ?_
    rw [lst_bs, lst_bs]
    rintro e w1 ⟨rfl, h3⟩
    go_wp2
    go_ret
    exact ⟨by rw [decide_eq_true H.out]; rfl, ((Below.refl _ w).alloc (Nat.le_refl _) _).trans (h3.mono (by simp))⟩
  · have hb : (r.t == et) = false := beq_eq_false_iff_ne.2 h
    have H := Lib.hid h
    clear h
    go_enter Try.func50, Try.ntmps50
    go_wp2
    go_ret
    exact ⟨by rw [decide_eq_false H.out]; rfl, (Below.refl _ w).alloc (Nat.le_refl _) _⟩

/-- What may be said of an entry's own fields. -/
def headOk (e : Ent) : Bool := within e.kind 1 3 && decide (chk e.name = 0) && within e.til 0 1125899906842624 && within e.rank 1 4 && within e.epoch 0 1099511627776
def mayR (e : Ent) (r : RRec) : Bool := if e.kind = 1 then decide (r.t = e.t) && sameN r.name e.name else decide (r.t = 6)
def recOk (e : Ent) (r : RRec) : Bool := decide (r.c = e.c) && mayR e r && decide (rchk r.name r.t r.data = 0)
def lenOk (e : Ent) : Bool := (if e.kind = 1 then within e.recs.length 1 64 else within e.recs.length 0 1) && !(decide (e.kind = 3) && decide (e.t ≠ 0))
/-- What Check answers. -/
def cchk (e : Ent) : Int := if headOk e && lenOk e && e.recs.all (recOk e) then 0 else 1
end Go.Proofs.Ytihfapnipifiiaa
