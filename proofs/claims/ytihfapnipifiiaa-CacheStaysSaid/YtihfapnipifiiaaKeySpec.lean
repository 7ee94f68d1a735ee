/- A cache's keys, as lists of bytes. -/
import Derived.Test.YtihfapnipifiiaaSpec2
namespace Go.Proofs.Ytihfapnipifiiaa
/-- The two bytes of a number of 16 bits. -/
def two8 (t : Int) : List UInt8 := [UInt8.ofNat (t / 256).toNat, UInt8.ofNat (t % 256).toNat]
/-- A key. -/
def keyL (p : UInt8) (n : List UInt8) (t c : Int) : List UInt8 := [p] ++ low n ++ two8 t ++ two8 c
end Go.Proofs.Ytihfapnipifiiaa
