/- Contracts of octet.Writer.Texts, and the law's example. -/
import Derived.Test.YtjmehamkpmimkaaOctX
import Derived.LoopTactic
namespace Go.Proofs.Ytjmehamkpmimkaa
open Go.RowKit

theorem wNum_len (n : Int) (s : WSt) : (wNum n s).1.length ≤ s.1.length + 4 := by
  unfold wNum wPut
  split
  · simp
  · split <;> simp [beBytes_len]
theorem wText_len (t : List UInt8) (s : WSt) : (wText t s).1.length ≤ s.1.length + 4 + t.length := by
  have := wNum_len t.length s
  unfold wText
  split
  · simp; omega
  · omega

/-- The strings' own lists of octets. -/
def octs (ts : List ByteArray) : List (List UInt8) := ts.map fun t => t.data.toList

end Go.Proofs.Ytjmehamkpmimkaa
