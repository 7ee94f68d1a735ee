/-
  No cell of these rows narrows 'for every input' (looked for: loops, veiled, ifaces, maps, wideKeys, modest, calm, conditions, laid).
  DERIVED. THE GIVEN ROWS OF THIS SEAT. 10 by the template 'for every input the law returns true; each argument reads behind the call as it read before'; 0 by the template 'total and deterministic' (their statements: YtihfapnipifiiaaTotals.lean).
  GIVEN WITH THE SEED: the statements are not yours to turn. If you find one false, say at which input.
  Laid BY PROGRAM, IN A SANDBOX (cutbox-rows.mjs): the forced cells as the released guide's own fill.sh prints them over the translation 1a5d3acec089bf3d… (all of the seat's roots in one cut). By AI agents, Wed Nov 11 2026. No macro, syntax, notation, axiom, sorry.
-/
import Derived.Test.YtihfapnipifiiaaChecked
import GoSem.Claim
import GoSem.ClaimJoined
import GoSem.ClaimMapViews
import Derived.JoinedTies
import Derived.KernelRfl
namespace Go.Proofs.Ytihfapnipifiiaa
/- THE CELL 'sum', in the pinned program and in every row, IS THE sha256 OF THE DUMP (.gsa) THAT YtihfapnipifiiaaProg.lean LOADS. Nothing in Lean hashes anything: it is a label: what it is worth is what the hold of that sum in a sandbox is worth. -/
noncomputable def Try.pinned : Pinned := { name := "ytihfapnipifiiaa", sum := "1a5d3acec089bf3d1fc38f2e86853d540783b116a8bd6a414bef99037589de02", checked := Try.checked }
namespace Rows
def none {H : Type} : Left H := { results := [], args := [] }

/-- 'fingerpostlaw16.CacheChecks': WHATEVER THE INPUT: true; the input reads as it did. -/
def cacheChecksSpec : ChangeSpec := { name := "cacheChecks", fn := fun _ => fun
  | [d1, d2] => { results := [.lit (.bool true)], args := [d1, d2] }
  | _ => none }
def cacheChecksRow : OpenClaim := { program := "ytihfapnipifiiaa", sum := "1a5d3acec089bf3d1fc38f2e86853d540783b116a8bd6a414bef99037589de02", func := "fingerpost/fingerpostlaw16.CacheChecks", spec := "cacheChecks", unfollowed := true, recurses := true, apart := false }
def CacheChecksSaid : Prop := cacheChecksRow.holds Try.pinned (OpenSpec.ofChange cacheChecksSpec)

/-- ITS FALSE NEIGHBOUR: 'it returns false'. Refute it at one input. -/
def cacheChecksWrong : ChangeSpec := { name := "cacheChecks", fn := fun _ => fun
  | [d1, d2] => { results := [.lit (.bool false)], args := [d1, d2] }
  | _ => none }
def CacheChecksWrongFalsely : Prop := cacheChecksRow.holds Try.pinned (OpenSpec.ofChange cacheChecksWrong)

/-- 'fingerpostlaw16.CacheStays': WHATEVER THE INPUT: true; the input reads as it did. -/
def cacheStaysSpec : ChangeSpec := { name := "cacheStays", fn := fun _ => fun
  | [d1, d2, d3] => { results := [.lit (.bool true)], args := [d1, d2, d3] }
  | _ => none }
def cacheStaysRow : OpenClaim := { program := "ytihfapnipifiiaa", sum := "1a5d3acec089bf3d1fc38f2e86853d540783b116a8bd6a414bef99037589de02", func := "fingerpost/fingerpostlaw16.CacheStays", spec := "cacheStays", unfollowed := true, recurses := true, apart := false }
def CacheStaysSaid : Prop := cacheStaysRow.holds Try.pinned (OpenSpec.ofChange cacheStaysSpec)

/-- ITS FALSE NEIGHBOUR: 'it returns false'. Refute it at one input. -/
def cacheStaysWrong : ChangeSpec := { name := "cacheStays", fn := fun _ => fun
  | [d1, d2, d3] => { results := [.lit (.bool false)], args := [d1, d2, d3] }
  | _ => none }
def CacheStaysWrongFalsely : Prop := cacheStaysRow.holds Try.pinned (OpenSpec.ofChange cacheStaysWrong)

/-- 'fingerpostlaw16.CacheRanks': WHATEVER THE INPUT: true; the input reads as it did. -/
def cacheRanksSpec : ChangeSpec := { name := "cacheRanks", fn := fun _ => fun
  | [d1, d2, d3] => { results := [.lit (.bool true)], args := [d1, d2, d3] }
  | _ => none }
def cacheRanksRow : OpenClaim := { program := "ytihfapnipifiiaa", sum := "1a5d3acec089bf3d1fc38f2e86853d540783b116a8bd6a414bef99037589de02", func := "fingerpost/fingerpostlaw16.CacheRanks", spec := "cacheRanks", unfollowed := true, recurses := true, apart := false }
def CacheRanksSaid : Prop := cacheRanksRow.holds Try.pinned (OpenSpec.ofChange cacheRanksSpec)

/-- ITS FALSE NEIGHBOUR: 'it returns false'. Refute it at one input. -/
def cacheRanksWrong : ChangeSpec := { name := "cacheRanks", fn := fun _ => fun
  | [d1, d2, d3] => { results := [.lit (.bool false)], args := [d1, d2, d3] }
  | _ => none }
def CacheRanksWrongFalsely : Prop := cacheRanksRow.holds Try.pinned (OpenSpec.ofChange cacheRanksWrong)

/-- 'fingerpostlaw16.CacheNames': WHATEVER THE INPUT: true; the input reads as it did. -/
def cacheNamesSpec : ChangeSpec := { name := "cacheNames", fn := fun _ => fun
  | [d1, d2, d3] => { results := [.lit (.bool true)], args := [d1, d2, d3] }
  | _ => none }
def cacheNamesRow : OpenClaim := { program := "ytihfapnipifiiaa", sum := "1a5d3acec089bf3d1fc38f2e86853d540783b116a8bd6a414bef99037589de02", func := "fingerpost/fingerpostlaw16.CacheNames", spec := "cacheNames", unfollowed := true, recurses := true, apart := false }
def CacheNamesSaid : Prop := cacheNamesRow.holds Try.pinned (OpenSpec.ofChange cacheNamesSpec)

/-- ITS FALSE NEIGHBOUR: 'it returns false'. Refute it at one input. -/
def cacheNamesWrong : ChangeSpec := { name := "cacheNames", fn := fun _ => fun
  | [d1, d2, d3] => { results := [.lit (.bool false)], args := [d1, d2, d3] }
  | _ => none }
def CacheNamesWrongFalsely : Prop := cacheNamesRow.holds Try.pinned (OpenSpec.ofChange cacheNamesWrong)

/-- 'fingerpostlaw16.CacheBounds': WHATEVER THE INPUT: true; the input reads as it did. -/
def cacheBoundsSpec : ChangeSpec := { name := "cacheBounds", fn := fun _ => fun
  | [d1, d2] => { results := [.lit (.bool true)], args := [d1, d2] }
  | _ => none }
def cacheBoundsRow : OpenClaim := { program := "ytihfapnipifiiaa", sum := "1a5d3acec089bf3d1fc38f2e86853d540783b116a8bd6a414bef99037589de02", func := "fingerpost/fingerpostlaw16.CacheBounds", spec := "cacheBounds", unfollowed := true, recurses := true, apart := false }
def CacheBoundsSaid : Prop := cacheBoundsRow.holds Try.pinned (OpenSpec.ofChange cacheBoundsSpec)

/-- ITS FALSE NEIGHBOUR: 'it returns false'. Refute it at one input. -/
def cacheBoundsWrong : ChangeSpec := { name := "cacheBounds", fn := fun _ => fun
  | [d1, d2] => { results := [.lit (.bool false)], args := [d1, d2] }
  | _ => none }
def CacheBoundsWrongFalsely : Prop := cacheBoundsRow.holds Try.pinned (OpenSpec.ofChange cacheBoundsWrong)

/-- 'fingerpostlaw17.LookUses': WHATEVER THE INPUT: true; the input reads as it did. -/
def lookUsesSpec : ChangeSpec := { name := "lookUses", fn := fun _ => fun
  | [d1, d2, d3] => { results := [.lit (.bool true)], args := [d1, d2, d3] }
  | _ => none }
def lookUsesRow : OpenClaim := { program := "ytihfapnipifiiaa", sum := "1a5d3acec089bf3d1fc38f2e86853d540783b116a8bd6a414bef99037589de02", func := "fingerpost/fingerpostlaw17.LookUses", spec := "lookUses", unfollowed := true, recurses := true, apart := false }
def LookUsesSaid : Prop := lookUsesRow.holds Try.pinned (OpenSpec.ofChange lookUsesSpec)

/-- ITS FALSE NEIGHBOUR: 'it returns false'. Refute it at one input. -/
def lookUsesWrong : ChangeSpec := { name := "lookUses", fn := fun _ => fun
  | [d1, d2, d3] => { results := [.lit (.bool false)], args := [d1, d2, d3] }
  | _ => none }
def LookUsesWrongFalsely : Prop := lookUsesRow.holds Try.pinned (OpenSpec.ofChange lookUsesWrong)

/-- 'fingerpostlaw17.LookNothing': WHATEVER THE INPUT: true; the input reads as it did. -/
def lookNothingSpec : ChangeSpec := { name := "lookNothing", fn := fun _ => fun
  | [d1, d2] => { results := [.lit (.bool true)], args := [d1, d2] }
  | _ => none }
def lookNothingRow : OpenClaim := { program := "ytihfapnipifiiaa", sum := "1a5d3acec089bf3d1fc38f2e86853d540783b116a8bd6a414bef99037589de02", func := "fingerpost/fingerpostlaw17.LookNothing", spec := "lookNothing", unfollowed := true, recurses := true, apart := false }
def LookNothingSaid : Prop := lookNothingRow.holds Try.pinned (OpenSpec.ofChange lookNothingSpec)

/-- ITS FALSE NEIGHBOUR: 'it returns false'. Refute it at one input. -/
def lookNothingWrong : ChangeSpec := { name := "lookNothing", fn := fun _ => fun
  | [d1, d2] => { results := [.lit (.bool false)], args := [d1, d2] }
  | _ => none }
def LookNothingWrongFalsely : Prop := lookNothingRow.holds Try.pinned (OpenSpec.ofChange lookNothingWrong)

/-- 'fingerpostlaw17.LookFloors': WHATEVER THE INPUT: true; the input reads as it did. -/
def lookFloorsSpec : ChangeSpec := { name := "lookFloors", fn := fun _ => fun
  | [d1, d2] => { results := [.lit (.bool true)], args := [d1, d2] }
  | _ => none }
def lookFloorsRow : OpenClaim := { program := "ytihfapnipifiiaa", sum := "1a5d3acec089bf3d1fc38f2e86853d540783b116a8bd6a414bef99037589de02", func := "fingerpost/fingerpostlaw17.LookFloors", spec := "lookFloors", unfollowed := true, recurses := true, apart := false }
def LookFloorsSaid : Prop := lookFloorsRow.holds Try.pinned (OpenSpec.ofChange lookFloorsSpec)

/-- ITS FALSE NEIGHBOUR: 'it returns false'. Refute it at one input. -/
def lookFloorsWrong : ChangeSpec := { name := "lookFloors", fn := fun _ => fun
  | [d1, d2] => { results := [.lit (.bool false)], args := [d1, d2] }
  | _ => none }
def LookFloorsWrongFalsely : Prop := lookFloorsRow.holds Try.pinned (OpenSpec.ofChange lookFloorsWrong)

/-- 'fingerpostlaw16.CacheFlushes': WHATEVER THE INPUT: true; the input reads as it did. -/
def cacheFlushesSpec : ChangeSpec := { name := "cacheFlushes", fn := fun _ => fun
  | [d1, d2, d3] => { results := [.lit (.bool true)], args := [d1, d2, d3] }
  | _ => none }
def cacheFlushesRow : OpenClaim := { program := "ytihfapnipifiiaa", sum := "1a5d3acec089bf3d1fc38f2e86853d540783b116a8bd6a414bef99037589de02", func := "fingerpost/fingerpostlaw16.CacheFlushes", spec := "cacheFlushes", unfollowed := true, recurses := true, apart := false }
def CacheFlushesSaid : Prop := cacheFlushesRow.holds Try.pinned (OpenSpec.ofChange cacheFlushesSpec)

/-- ITS FALSE NEIGHBOUR: 'it returns false'. Refute it at one input. -/
def cacheFlushesWrong : ChangeSpec := { name := "cacheFlushes", fn := fun _ => fun
  | [d1, d2, d3] => { results := [.lit (.bool false)], args := [d1, d2, d3] }
  | _ => none }
def CacheFlushesWrongFalsely : Prop := cacheFlushesRow.holds Try.pinned (OpenSpec.ofChange cacheFlushesWrong)

/-- 'fingerpostlaw16.CacheNil': WHATEVER THE INPUT: true; the input reads as it did. -/
def cacheNilSpec : ChangeSpec := { name := "cacheNil", fn := fun _ => fun
  | [d] => { results := [.lit (.bool true)], args := [d] }
  | _ => none }
def cacheNilRow : OpenClaim := { program := "ytihfapnipifiiaa", sum := "1a5d3acec089bf3d1fc38f2e86853d540783b116a8bd6a414bef99037589de02", func := "fingerpost/fingerpostlaw16.CacheNil", spec := "cacheNil", unfollowed := true, recurses := true, apart := false }
def CacheNilSaid : Prop := cacheNilRow.holds Try.pinned (OpenSpec.ofChange cacheNilSpec)

/-- ITS FALSE NEIGHBOUR: 'it returns false'. Refute it at one input. -/
def cacheNilWrong : ChangeSpec := { name := "cacheNil", fn := fun _ => fun
  | [d] => { results := [.lit (.bool false)], args := [d] }
  | _ => none }
def CacheNilWrongFalsely : Prop := cacheNilRow.holds Try.pinned (OpenSpec.ofChange cacheNilWrong)

/- THE SECOND FORM. 'bulk': how many values and letters a reading holds, each counted each time it is reached (what is shared counts as often as it is met; a slice's spare places count too). A statement '..UptoSaid' is the law's where the arguments, and the package variables that the reading takes, are together of bulk at most 1048576: NARROWER than '..Said'. Prove '..Said' where nothing that the law and all that it calls make is longer than what came in: it says more and counts as full. Else prove '..UptoSaid'. A law counts once. -/
mutual
def uptoBulk {H : Type} : DataW H → Nat
  | .lit (.string bytes) => bytes.length + 1
  | .lit _ => 1
  | .nil => 1
  | .ptr d => uptoBulk d + 1
  | .slice elems spare => uptoBulkAll elems + uptoBulkAll spare + 1
  | .agg parts => uptoBulkAll parts + 1
  | .iface _ d => uptoBulk d + 1
  | .map entries => uptoBulkEntries entries + 1
  | .held _ => 1
def uptoBulkAll {H : Type} : List (DataW H) → Nat
  | [] => 0
  | d :: r => uptoBulk d + uptoBulkAll r
def uptoBulkEntries {H : Type} : List (Lit × DataW H) → Nat
  | [] => 0
  | x :: r => uptoBulkEntry x + uptoBulkEntries r
def uptoBulkEntry {H : Type} : Lit × DataW H → Nat
  | (.string bytes, d) => bytes.length + uptoBulk d + 1
  | (_, d) => uptoBulk d + 1
 end
def uptoSmall : (H : Type) → List (DataW H) → Bool := fun _ ds => decide (uptoBulkAll ds ≤ 1048576)
def OpenSpec.upto (s : _root_.Go.ChangeSpec) : _root_.Go.OpenSpec := { _root_.Go.OpenSpec.ofChange s with cond := some uptoSmall }

/-- 'fingerpostlaw16.CacheChecks', WHERE WHAT IT READS IS OF BULK AT MOST 1048576: true; the input reads as it did. -/
def cacheChecksUptoRow : OpenClaim := { program := "ytihfapnipifiiaa", sum := "1a5d3acec089bf3d1fc38f2e86853d540783b116a8bd6a414bef99037589de02", func := "fingerpost/fingerpostlaw16.CacheChecks", spec := "cacheChecks", unfollowed := true, recurses := true, apart := false, narrowed := true }
def CacheChecksUptoSaid : Prop := cacheChecksUptoRow.holds Try.pinned (OpenSpec.upto cacheChecksSpec)

/-- 'fingerpostlaw16.CacheStays', WHERE WHAT IT READS IS OF BULK AT MOST 1048576: true; the input reads as it did. -/
def cacheStaysUptoRow : OpenClaim := { program := "ytihfapnipifiiaa", sum := "1a5d3acec089bf3d1fc38f2e86853d540783b116a8bd6a414bef99037589de02", func := "fingerpost/fingerpostlaw16.CacheStays", spec := "cacheStays", unfollowed := true, recurses := true, apart := false, narrowed := true }
def CacheStaysUptoSaid : Prop := cacheStaysUptoRow.holds Try.pinned (OpenSpec.upto cacheStaysSpec)

/-- 'fingerpostlaw16.CacheRanks', WHERE WHAT IT READS IS OF BULK AT MOST 1048576: true; the input reads as it did. -/
def cacheRanksUptoRow : OpenClaim := { program := "ytihfapnipifiiaa", sum := "1a5d3acec089bf3d1fc38f2e86853d540783b116a8bd6a414bef99037589de02", func := "fingerpost/fingerpostlaw16.CacheRanks", spec := "cacheRanks", unfollowed := true, recurses := true, apart := false, narrowed := true }
def CacheRanksUptoSaid : Prop := cacheRanksUptoRow.holds Try.pinned (OpenSpec.upto cacheRanksSpec)

/-- 'fingerpostlaw16.CacheNames', WHERE WHAT IT READS IS OF BULK AT MOST 1048576: true; the input reads as it did. -/
def cacheNamesUptoRow : OpenClaim := { program := "ytihfapnipifiiaa", sum := "1a5d3acec089bf3d1fc38f2e86853d540783b116a8bd6a414bef99037589de02", func := "fingerpost/fingerpostlaw16.CacheNames", spec := "cacheNames", unfollowed := true, recurses := true, apart := false, narrowed := true }
def CacheNamesUptoSaid : Prop := cacheNamesUptoRow.holds Try.pinned (OpenSpec.upto cacheNamesSpec)

/-- 'fingerpostlaw16.CacheBounds', WHERE WHAT IT READS IS OF BULK AT MOST 1048576: true; the input reads as it did. -/
def cacheBoundsUptoRow : OpenClaim := { program := "ytihfapnipifiiaa", sum := "1a5d3acec089bf3d1fc38f2e86853d540783b116a8bd6a414bef99037589de02", func := "fingerpost/fingerpostlaw16.CacheBounds", spec := "cacheBounds", unfollowed := true, recurses := true, apart := false, narrowed := true }
def CacheBoundsUptoSaid : Prop := cacheBoundsUptoRow.holds Try.pinned (OpenSpec.upto cacheBoundsSpec)

/-- 'fingerpostlaw17.LookUses', WHERE WHAT IT READS IS OF BULK AT MOST 1048576: true; the input reads as it did. -/
def lookUsesUptoRow : OpenClaim := { program := "ytihfapnipifiiaa", sum := "1a5d3acec089bf3d1fc38f2e86853d540783b116a8bd6a414bef99037589de02", func := "fingerpost/fingerpostlaw17.LookUses", spec := "lookUses", unfollowed := true, recurses := true, apart := false, narrowed := true }
def LookUsesUptoSaid : Prop := lookUsesUptoRow.holds Try.pinned (OpenSpec.upto lookUsesSpec)

/-- 'fingerpostlaw17.LookNothing', WHERE WHAT IT READS IS OF BULK AT MOST 1048576: true; the input reads as it did. -/
def lookNothingUptoRow : OpenClaim := { program := "ytihfapnipifiiaa", sum := "1a5d3acec089bf3d1fc38f2e86853d540783b116a8bd6a414bef99037589de02", func := "fingerpost/fingerpostlaw17.LookNothing", spec := "lookNothing", unfollowed := true, recurses := true, apart := false, narrowed := true }
def LookNothingUptoSaid : Prop := lookNothingUptoRow.holds Try.pinned (OpenSpec.upto lookNothingSpec)

/-- 'fingerpostlaw17.LookFloors', WHERE WHAT IT READS IS OF BULK AT MOST 1048576: true; the input reads as it did. -/
def lookFloorsUptoRow : OpenClaim := { program := "ytihfapnipifiiaa", sum := "1a5d3acec089bf3d1fc38f2e86853d540783b116a8bd6a414bef99037589de02", func := "fingerpost/fingerpostlaw17.LookFloors", spec := "lookFloors", unfollowed := true, recurses := true, apart := false, narrowed := true }
def LookFloorsUptoSaid : Prop := lookFloorsUptoRow.holds Try.pinned (OpenSpec.upto lookFloorsSpec)

/-- 'fingerpostlaw16.CacheFlushes', WHERE WHAT IT READS IS OF BULK AT MOST 1048576: true; the input reads as it did. -/
def cacheFlushesUptoRow : OpenClaim := { program := "ytihfapnipifiiaa", sum := "1a5d3acec089bf3d1fc38f2e86853d540783b116a8bd6a414bef99037589de02", func := "fingerpost/fingerpostlaw16.CacheFlushes", spec := "cacheFlushes", unfollowed := true, recurses := true, apart := false, narrowed := true }
def CacheFlushesUptoSaid : Prop := cacheFlushesUptoRow.holds Try.pinned (OpenSpec.upto cacheFlushesSpec)

/-- 'fingerpostlaw16.CacheNil', WHERE WHAT IT READS IS OF BULK AT MOST 1048576: true; the input reads as it did. -/
def cacheNilUptoRow : OpenClaim := { program := "ytihfapnipifiiaa", sum := "1a5d3acec089bf3d1fc38f2e86853d540783b116a8bd6a414bef99037589de02", func := "fingerpost/fingerpostlaw16.CacheNil", spec := "cacheNil", unfollowed := true, recurses := true, apart := false, narrowed := true }
def CacheNilUptoSaid : Prop := cacheNilUptoRow.holds Try.pinned (OpenSpec.upto cacheNilSpec)

end Rows
end Go.Proofs.Ytihfapnipifiiaa
