/-
  No cell of these rows narrows 'for every input' (looked for: loops, veiled, ifaces, maps, wideKeys, modest, calm, conditions, laid).
  DERIVED. THE GIVEN ROWS OF THIS SEAT. 6 by the template 'for every input the law returns true; each argument reads behind the call as it read before'; 0 by the template 'total and deterministic' (their statements: YtjmehamkpmimkaaTotals.lean).
  GIVEN WITH THE SEED: the statements are not yours to turn. If you find one false, say at which input.
  Laid BY PROGRAM, IN A SANDBOX (cutbox-rows.mjs): the forced cells as the released guide's own fill.sh prints them over the translation c9230632d4f2868f… (all of the seat's roots in one cut). By AI agents, Wed Nov 11 2026. No macro, syntax, notation, axiom, sorry.
-/
import Derived.Test.YtjmehamkpmimkaaChecked
import GoSem.Claim
import GoSem.ClaimJoined
import GoSem.ClaimMapViews
import Derived.JoinedTies
import Derived.KernelRfl
namespace Go.Proofs.Ytjmehamkpmimkaa
/- THE CELL 'sum', in the pinned program and in every row, IS THE sha256 OF THE DUMP (.gsa) THAT YtjmehamkpmimkaaProg.lean LOADS. Nothing in Lean hashes anything: it is a label: what it is worth is what the hold of that sum in a sandbox is worth. -/
noncomputable def Try.pinned : Pinned := { name := "ytjmehamkpmimkaa", sum := "c9230632d4f2868f902a7ffb49dc92e0f2cea2d48ed97464d30fad871bd18b38", checked := Try.checked }
namespace Rows
def none {H : Type} : Left H := { results := [], args := [] }

/-- 'monticulelaw04.JournalRooms': WHATEVER THE INPUT: true; the input reads as it did. -/
def journalRoomsSpec : ChangeSpec := { name := "journalRooms", fn := fun _ => fun
  | [d] => { results := [.lit (.bool true)], args := [d] }
  | _ => none }
def journalRoomsRow : OpenClaim := { program := "ytjmehamkpmimkaa", sum := "c9230632d4f2868f902a7ffb49dc92e0f2cea2d48ed97464d30fad871bd18b38", func := "monticule/monticulelaw04.JournalRooms", spec := "journalRooms", unfollowed := true, recurses := true, apart := false }
def JournalRoomsSaid : Prop := journalRoomsRow.holds Try.pinned (OpenSpec.ofChange journalRoomsSpec)

/-- ITS FALSE NEIGHBOUR: 'it returns false'. Refute it at one input. -/
def journalRoomsWrong : ChangeSpec := { name := "journalRooms", fn := fun _ => fun
  | [d] => { results := [.lit (.bool false)], args := [d] }
  | _ => none }
def JournalRoomsWrongFalsely : Prop := journalRoomsRow.holds Try.pinned (OpenSpec.ofChange journalRoomsWrong)

/-- 'monticulelaw04.JournalActs': WHATEVER THE INPUT: true; the input reads as it did. -/
def journalActsSpec : ChangeSpec := { name := "journalActs", fn := fun _ => fun
  | [d1, d2] => { results := [.lit (.bool true)], args := [d1, d2] }
  | _ => none }
def journalActsRow : OpenClaim := { program := "ytjmehamkpmimkaa", sum := "c9230632d4f2868f902a7ffb49dc92e0f2cea2d48ed97464d30fad871bd18b38", func := "monticule/monticulelaw04.JournalActs", spec := "journalActs", unfollowed := true, recurses := true, apart := false }
def JournalActsSaid : Prop := journalActsRow.holds Try.pinned (OpenSpec.ofChange journalActsSpec)

/-- ITS FALSE NEIGHBOUR: 'it returns false'. Refute it at one input. -/
def journalActsWrong : ChangeSpec := { name := "journalActs", fn := fun _ => fun
  | [d1, d2] => { results := [.lit (.bool false)], args := [d1, d2] }
  | _ => none }
def JournalActsWrongFalsely : Prop := journalActsRow.holds Try.pinned (OpenSpec.ofChange journalActsWrong)

/-- 'monticulelaw04.JournalCrashes': WHATEVER THE INPUT: true; the input reads as it did. -/
def journalCrashesSpec : ChangeSpec := { name := "journalCrashes", fn := fun _ => fun
  | [d1, d2, d3] => { results := [.lit (.bool true)], args := [d1, d2, d3] }
  | _ => none }
def journalCrashesRow : OpenClaim := { program := "ytjmehamkpmimkaa", sum := "c9230632d4f2868f902a7ffb49dc92e0f2cea2d48ed97464d30fad871bd18b38", func := "monticule/monticulelaw04.JournalCrashes", spec := "journalCrashes", unfollowed := true, recurses := true, apart := false }
def JournalCrashesSaid : Prop := journalCrashesRow.holds Try.pinned (OpenSpec.ofChange journalCrashesSpec)

/-- ITS FALSE NEIGHBOUR: 'it returns false'. Refute it at one input. -/
def journalCrashesWrong : ChangeSpec := { name := "journalCrashes", fn := fun _ => fun
  | [d1, d2, d3] => { results := [.lit (.bool false)], args := [d1, d2, d3] }
  | _ => none }
def JournalCrashesWrongFalsely : Prop := journalCrashesRow.holds Try.pinned (OpenSpec.ofChange journalCrashesWrong)

/-- 'monticulelaw04.JournalTwice': WHATEVER THE INPUT: true; the input reads as it did. -/
def journalTwiceSpec : ChangeSpec := { name := "journalTwice", fn := fun _ => fun
  | [d1, d2] => { results := [.lit (.bool true)], args := [d1, d2] }
  | _ => none }
def journalTwiceRow : OpenClaim := { program := "ytjmehamkpmimkaa", sum := "c9230632d4f2868f902a7ffb49dc92e0f2cea2d48ed97464d30fad871bd18b38", func := "monticule/monticulelaw04.JournalTwice", spec := "journalTwice", unfollowed := true, recurses := true, apart := false }
def JournalTwiceSaid : Prop := journalTwiceRow.holds Try.pinned (OpenSpec.ofChange journalTwiceSpec)

/-- ITS FALSE NEIGHBOUR: 'it returns false'. Refute it at one input. -/
def journalTwiceWrong : ChangeSpec := { name := "journalTwice", fn := fun _ => fun
  | [d1, d2] => { results := [.lit (.bool false)], args := [d1, d2] }
  | _ => none }
def JournalTwiceWrongFalsely : Prop := journalTwiceRow.holds Try.pinned (OpenSpec.ofChange journalTwiceWrong)

/-- 'monticulelaw05.StoreKeeps': WHATEVER THE INPUT: true; the input reads as it did. -/
def storeKeepsSpec : ChangeSpec := { name := "storeKeeps", fn := fun _ => fun
  | [d1, d2] => { results := [.lit (.bool true)], args := [d1, d2] }
  | _ => none }
def storeKeepsRow : OpenClaim := { program := "ytjmehamkpmimkaa", sum := "c9230632d4f2868f902a7ffb49dc92e0f2cea2d48ed97464d30fad871bd18b38", func := "monticule/monticulelaw05.StoreKeeps", spec := "storeKeeps", inPlace := ["sync/atomic.LoadUint32", "sync/atomic.AddInt64", "sync/atomic.StoreUint32"], unfollowed := true, recurses := true, apart := false }
def StoreKeepsSaid : Prop := storeKeepsRow.holds Try.pinned (OpenSpec.ofChange storeKeepsSpec)

/-- ITS FALSE NEIGHBOUR: 'it returns false'. Refute it at one input. -/
def storeKeepsWrong : ChangeSpec := { name := "storeKeeps", fn := fun _ => fun
  | [d1, d2] => { results := [.lit (.bool false)], args := [d1, d2] }
  | _ => none }
def StoreKeepsWrongFalsely : Prop := storeKeepsRow.holds Try.pinned (OpenSpec.ofChange storeKeepsWrong)

/-- 'monticulelaw05.StoreActs': WHATEVER THE INPUT: true; the input reads as it did. -/
def storeActsSpec : ChangeSpec := { name := "storeActs", fn := fun _ => fun
  | [d1, d2] => { results := [.lit (.bool true)], args := [d1, d2] }
  | _ => none }
def storeActsRow : OpenClaim := { program := "ytjmehamkpmimkaa", sum := "c9230632d4f2868f902a7ffb49dc92e0f2cea2d48ed97464d30fad871bd18b38", func := "monticule/monticulelaw05.StoreActs", spec := "storeActs", inPlace := ["sync/atomic.LoadUint32", "sync/atomic.AddInt64", "sync/atomic.StoreUint32", "sync/atomic.LoadInt64"], unfollowed := true, recurses := true, apart := false }
def StoreActsSaid : Prop := storeActsRow.holds Try.pinned (OpenSpec.ofChange storeActsSpec)

/-- ITS FALSE NEIGHBOUR: 'it returns false'. Refute it at one input. -/
def storeActsWrong : ChangeSpec := { name := "storeActs", fn := fun _ => fun
  | [d1, d2] => { results := [.lit (.bool false)], args := [d1, d2] }
  | _ => none }
def StoreActsWrongFalsely : Prop := storeActsRow.holds Try.pinned (OpenSpec.ofChange storeActsWrong)

/- THE SECOND FORM. 'bulk': how many values and letters a reading holds, each counted each time it is reached (what is shared counts as often as it is met; a slice's spare places count too). A statement '..UptoSaid' is the law's where the arguments, and the package variables that the reading takes, are together of bulk at most 1048576: NARROWER than '..Said'. Prove '..Said' where nothing that the law and all that it calls make is longer than what came in: it says more and counts as full. Else prove '..UptoSaid'. A law counts once. -/
mutual
def uptoBulk {H : Type} : DataW H → Nat
  | .lit (.string bytes) => bytes.length + 1
  | .lit _ => 1
  | .nil => 1
  | .ptr d => uptoBulk d + 1
  | .slice elems spare => uptoBulkAll elems + uptoBulkAll spare + 1
  | .agg parts => uptoBulkAll parts + 1
  | .iface _ d => uptoBulk d + 1
  | .map entries => uptoBulkEntries entries + 1
  | .held _ => 1
def uptoBulkAll {H : Type} : List (DataW H) → Nat
  | [] => 0
  | d :: r => uptoBulk d + uptoBulkAll r
def uptoBulkEntries {H : Type} : List (Lit × DataW H) → Nat
  | [] => 0
  | x :: r => uptoBulkEntry x + uptoBulkEntries r
def uptoBulkEntry {H : Type} : Lit × DataW H → Nat
  | (.string bytes, d) => bytes.length + uptoBulk d + 1
  | (_, d) => uptoBulk d + 1
 end
def uptoSmall : (H : Type) → List (DataW H) → Bool := fun _ ds => decide (uptoBulkAll ds ≤ 1048576)
def OpenSpec.upto (s : _root_.Go.ChangeSpec) : _root_.Go.OpenSpec := { _root_.Go.OpenSpec.ofChange s with cond := some uptoSmall }

/-- 'monticulelaw04.JournalRooms', WHERE WHAT IT READS IS OF BULK AT MOST 1048576: true; the input reads as it did. -/
def journalRoomsUptoRow : OpenClaim := { program := "ytjmehamkpmimkaa", sum := "c9230632d4f2868f902a7ffb49dc92e0f2cea2d48ed97464d30fad871bd18b38", func := "monticule/monticulelaw04.JournalRooms", spec := "journalRooms", unfollowed := true, recurses := true, apart := false, narrowed := true }
def JournalRoomsUptoSaid : Prop := journalRoomsUptoRow.holds Try.pinned (OpenSpec.upto journalRoomsSpec)

/-- 'monticulelaw04.JournalActs', WHERE WHAT IT READS IS OF BULK AT MOST 1048576: true; the input reads as it did. -/
def journalActsUptoRow : OpenClaim := { program := "ytjmehamkpmimkaa", sum := "c9230632d4f2868f902a7ffb49dc92e0f2cea2d48ed97464d30fad871bd18b38", func := "monticule/monticulelaw04.JournalActs", spec := "journalActs", unfollowed := true, recurses := true, apart := false, narrowed := true }
def JournalActsUptoSaid : Prop := journalActsUptoRow.holds Try.pinned (OpenSpec.upto journalActsSpec)

/-- 'monticulelaw04.JournalCrashes', WHERE WHAT IT READS IS OF BULK AT MOST 1048576: true; the input reads as it did. -/
def journalCrashesUptoRow : OpenClaim := { program := "ytjmehamkpmimkaa", sum := "c9230632d4f2868f902a7ffb49dc92e0f2cea2d48ed97464d30fad871bd18b38", func := "monticule/monticulelaw04.JournalCrashes", spec := "journalCrashes", unfollowed := true, recurses := true, apart := false, narrowed := true }
def JournalCrashesUptoSaid : Prop := journalCrashesUptoRow.holds Try.pinned (OpenSpec.upto journalCrashesSpec)

/-- 'monticulelaw04.JournalTwice', WHERE WHAT IT READS IS OF BULK AT MOST 1048576: true; the input reads as it did. -/
def journalTwiceUptoRow : OpenClaim := { program := "ytjmehamkpmimkaa", sum := "c9230632d4f2868f902a7ffb49dc92e0f2cea2d48ed97464d30fad871bd18b38", func := "monticule/monticulelaw04.JournalTwice", spec := "journalTwice", unfollowed := true, recurses := true, apart := false, narrowed := true }
def JournalTwiceUptoSaid : Prop := journalTwiceUptoRow.holds Try.pinned (OpenSpec.upto journalTwiceSpec)

/-- 'monticulelaw05.StoreKeeps', WHERE WHAT IT READS IS OF BULK AT MOST 1048576: true; the input reads as it did. -/
def storeKeepsUptoRow : OpenClaim := { program := "ytjmehamkpmimkaa", sum := "c9230632d4f2868f902a7ffb49dc92e0f2cea2d48ed97464d30fad871bd18b38", func := "monticule/monticulelaw05.StoreKeeps", spec := "storeKeeps", inPlace := ["sync/atomic.LoadUint32", "sync/atomic.AddInt64", "sync/atomic.StoreUint32"], unfollowed := true, recurses := true, apart := false, narrowed := true }
def StoreKeepsUptoSaid : Prop := storeKeepsUptoRow.holds Try.pinned (OpenSpec.upto storeKeepsSpec)

/-- 'monticulelaw05.StoreActs', WHERE WHAT IT READS IS OF BULK AT MOST 1048576: true; the input reads as it did. -/
def storeActsUptoRow : OpenClaim := { program := "ytjmehamkpmimkaa", sum := "c9230632d4f2868f902a7ffb49dc92e0f2cea2d48ed97464d30fad871bd18b38", func := "monticule/monticulelaw05.StoreActs", spec := "storeActs", inPlace := ["sync/atomic.LoadUint32", "sync/atomic.AddInt64", "sync/atomic.StoreUint32", "sync/atomic.LoadInt64"], unfollowed := true, recurses := true, apart := false, narrowed := true }
def StoreActsUptoSaid : Prop := storeActsUptoRow.holds Try.pinned (OpenSpec.upto storeActsSpec)

end Rows
end Go.Proofs.Ytjmehamkpmimkaa
