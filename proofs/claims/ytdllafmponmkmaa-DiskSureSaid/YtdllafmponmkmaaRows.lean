/-
  No cell of these rows narrows 'for every input' (looked for: loops, veiled, ifaces, maps, wideKeys, modest, calm, conditions, laid).
  DERIVED. THE GIVEN ROWS OF THIS SEAT. 12 by the template 'for every input the law returns true; each argument reads behind the call as it read before'; 0 by the template 'total and deterministic' (their statements: YtdllafmponmkmaaTotals.lean).
  GIVEN WITH THE SEED: the statements are not yours to turn. If you find one false, say at which input.
  Laid BY PROGRAM, IN A SANDBOX (cutbox-rows.mjs): the forced cells as the released guide's own fill.sh prints them over the translation 38a14b200acf0283… (all of the seat's roots in one cut). By AI agents, Wed Nov 11 2026. No macro, syntax, notation, axiom, sorry.
-/
import Derived.Test.YtdllafmponmkmaaChecked
import GoSem.Claim
import GoSem.ClaimJoined
import GoSem.ClaimMapViews
import Derived.JoinedTies
import Derived.KernelRfl
namespace Go.Proofs.Ytdllafmponmkmaa
/- THE CELL 'sum', in the pinned program and in every row, IS THE sha256 OF THE DUMP (.gsa) THAT YtdllafmponmkmaaProg.lean LOADS. Nothing in Lean hashes anything: it is a label: what it is worth is what the hold of that sum in a sandbox is worth. -/
noncomputable def Try.pinned : Pinned := { name := "ytdllafmponmkmaa", sum := "38a14b200acf0283f4f4aa9aab134fef38a1077b1a1fbf63ae96a9851c75fb50", checked := Try.checked }
namespace Rows
def none {H : Type} : Left H := { results := [], args := [] }

/-- 'monticulelaw02.CrcSums': WHATEVER THE INPUT: true; the input reads as it did. -/
def crcSumsSpec : ChangeSpec := { name := "crcSums", fn := fun _ => fun
  | [d1, d2] => { results := [.lit (.bool true)], args := [d1, d2] }
  | _ => none }
def crcSumsRow : OpenClaim := { program := "ytdllafmponmkmaa", sum := "38a14b200acf0283f4f4aa9aab134fef38a1077b1a1fbf63ae96a9851c75fb50", func := "monticule/monticulelaw02.CrcSums", spec := "crcSums", apart := false }
def CrcSumsSaid : Prop := crcSumsRow.holds Try.pinned (OpenSpec.ofChange crcSumsSpec)

/-- ITS FALSE NEIGHBOUR: 'it returns false'. Refute it at one input. -/
def crcSumsWrong : ChangeSpec := { name := "crcSums", fn := fun _ => fun
  | [d1, d2] => { results := [.lit (.bool false)], args := [d1, d2] }
  | _ => none }
def CrcSumsWrongFalsely : Prop := crcSumsRow.holds Try.pinned (OpenSpec.ofChange crcSumsWrong)

/-- 'monticulelaw01.OctetWrites': WHATEVER THE INPUT: true; the input reads as it did. -/
def octetWritesSpec : ChangeSpec := { name := "octetWrites", fn := fun _ => fun
  | [d] => { results := [.lit (.bool true)], args := [d] }
  | _ => none }
def octetWritesRow : OpenClaim := { program := "ytdllafmponmkmaa", sum := "38a14b200acf0283f4f4aa9aab134fef38a1077b1a1fbf63ae96a9851c75fb50", func := "monticule/monticulelaw01.OctetWrites", spec := "octetWrites", apart := false }
def OctetWritesSaid : Prop := octetWritesRow.holds Try.pinned (OpenSpec.ofChange octetWritesSpec)

/-- ITS FALSE NEIGHBOUR: 'it returns false'. Refute it at one input. -/
def octetWritesWrong : ChangeSpec := { name := "octetWrites", fn := fun _ => fun
  | [d] => { results := [.lit (.bool false)], args := [d] }
  | _ => none }
def OctetWritesWrongFalsely : Prop := octetWritesRow.holds Try.pinned (OpenSpec.ofChange octetWritesWrong)

/-- 'monticulelaw02.CrcOpens': WHATEVER THE INPUT: true; the input reads as it did. -/
def crcOpensSpec : ChangeSpec := { name := "crcOpens", fn := fun _ => fun
  | [d] => { results := [.lit (.bool true)], args := [d] }
  | _ => none }
def crcOpensRow : OpenClaim := { program := "ytdllafmponmkmaa", sum := "38a14b200acf0283f4f4aa9aab134fef38a1077b1a1fbf63ae96a9851c75fb50", func := "monticule/monticulelaw02.CrcOpens", spec := "crcOpens", apart := false }
def CrcOpensSaid : Prop := crcOpensRow.holds Try.pinned (OpenSpec.ofChange crcOpensSpec)

/-- ITS FALSE NEIGHBOUR: 'it returns false'. Refute it at one input. -/
def crcOpensWrong : ChangeSpec := { name := "crcOpens", fn := fun _ => fun
  | [d] => { results := [.lit (.bool false)], args := [d] }
  | _ => none }
def CrcOpensWrongFalsely : Prop := crcOpensRow.holds Try.pinned (OpenSpec.ofChange crcOpensWrong)

/-- 'monticulelaw02.CrcTells': WHATEVER THE INPUT: true; the input reads as it did. -/
def crcTellsSpec : ChangeSpec := { name := "crcTells", fn := fun _ => fun
  | [d1, d2, d3] => { results := [.lit (.bool true)], args := [d1, d2, d3] }
  | _ => none }
def crcTellsRow : OpenClaim := { program := "ytdllafmponmkmaa", sum := "38a14b200acf0283f4f4aa9aab134fef38a1077b1a1fbf63ae96a9851c75fb50", func := "monticule/monticulelaw02.CrcTells", spec := "crcTells", apart := false }
def CrcTellsSaid : Prop := crcTellsRow.holds Try.pinned (OpenSpec.ofChange crcTellsSpec)

/-- ITS FALSE NEIGHBOUR: 'it returns false'. Refute it at one input. -/
def crcTellsWrong : ChangeSpec := { name := "crcTells", fn := fun _ => fun
  | [d1, d2, d3] => { results := [.lit (.bool false)], args := [d1, d2, d3] }
  | _ => none }
def CrcTellsWrongFalsely : Prop := crcTellsRow.holds Try.pinned (OpenSpec.ofChange crcTellsWrong)

/-- 'monticulelaw24.FrameDeep': WHATEVER THE INPUT: true; the input reads as it did. -/
def frameDeepSpec : ChangeSpec := { name := "frameDeep", fn := fun _ => fun
  | [d] => { results := [.lit (.bool true)], args := [d] }
  | _ => none }
def frameDeepRow : OpenClaim := { program := "ytdllafmponmkmaa", sum := "38a14b200acf0283f4f4aa9aab134fef38a1077b1a1fbf63ae96a9851c75fb50", func := "monticule/monticulelaw24.FrameDeep", spec := "frameDeep", unfollowed := true, recurses := true, apart := false }
def FrameDeepSaid : Prop := frameDeepRow.holds Try.pinned (OpenSpec.ofChange frameDeepSpec)

/-- ITS FALSE NEIGHBOUR: 'it returns false'. Refute it at one input. -/
def frameDeepWrong : ChangeSpec := { name := "frameDeep", fn := fun _ => fun
  | [d] => { results := [.lit (.bool false)], args := [d] }
  | _ => none }
def FrameDeepWrongFalsely : Prop := frameDeepRow.holds Try.pinned (OpenSpec.ofChange frameDeepWrong)

/-- 'monticulelaw03.DiskSure': WHATEVER THE INPUT: true; the input reads as it did. -/
def diskSureSpec : ChangeSpec := { name := "diskSure", fn := fun _ => fun
  | [d] => { results := [.lit (.bool true)], args := [d] }
  | _ => none }
def diskSureRow : OpenClaim := { program := "ytdllafmponmkmaa", sum := "38a14b200acf0283f4f4aa9aab134fef38a1077b1a1fbf63ae96a9851c75fb50", func := "monticule/monticulelaw03.DiskSure", spec := "diskSure", apart := false }
def DiskSureSaid : Prop := diskSureRow.holds Try.pinned (OpenSpec.ofChange diskSureSpec)

/-- ITS FALSE NEIGHBOUR: 'it returns false'. Refute it at one input. -/
def diskSureWrong : ChangeSpec := { name := "diskSure", fn := fun _ => fun
  | [d] => { results := [.lit (.bool false)], args := [d] }
  | _ => none }
def DiskSureWrongFalsely : Prop := diskSureRow.holds Try.pinned (OpenSpec.ofChange diskSureWrong)

/-- 'monticulelaw03.DiskSizes': WHATEVER THE INPUT: true; the input reads as it did. -/
def diskSizesSpec : ChangeSpec := { name := "diskSizes", fn := fun _ => fun
  | [d1, d2] => { results := [.lit (.bool true)], args := [d1, d2] }
  | _ => none }
def diskSizesRow : OpenClaim := { program := "ytdllafmponmkmaa", sum := "38a14b200acf0283f4f4aa9aab134fef38a1077b1a1fbf63ae96a9851c75fb50", func := "monticule/monticulelaw03.DiskSizes", spec := "diskSizes", apart := false }
def DiskSizesSaid : Prop := diskSizesRow.holds Try.pinned (OpenSpec.ofChange diskSizesSpec)

/-- ITS FALSE NEIGHBOUR: 'it returns false'. Refute it at one input. -/
def diskSizesWrong : ChangeSpec := { name := "diskSizes", fn := fun _ => fun
  | [d1, d2] => { results := [.lit (.bool false)], args := [d1, d2] }
  | _ => none }
def DiskSizesWrongFalsely : Prop := diskSizesRow.holds Try.pinned (OpenSpec.ofChange diskSizesWrong)

/-- 'monticulelaw03.DiskActs': WHATEVER THE INPUT: true; the input reads as it did. -/
def diskActsSpec : ChangeSpec := { name := "diskActs", fn := fun _ => fun
  | [d1, d2] => { results := [.lit (.bool true)], args := [d1, d2] }
  | _ => none }
def diskActsRow : OpenClaim := { program := "ytdllafmponmkmaa", sum := "38a14b200acf0283f4f4aa9aab134fef38a1077b1a1fbf63ae96a9851c75fb50", func := "monticule/monticulelaw03.DiskActs", spec := "diskActs", apart := false }
def DiskActsSaid : Prop := diskActsRow.holds Try.pinned (OpenSpec.ofChange diskActsSpec)

/-- ITS FALSE NEIGHBOUR: 'it returns false'. Refute it at one input. -/
def diskActsWrong : ChangeSpec := { name := "diskActs", fn := fun _ => fun
  | [d1, d2] => { results := [.lit (.bool false)], args := [d1, d2] }
  | _ => none }
def DiskActsWrongFalsely : Prop := diskActsRow.holds Try.pinned (OpenSpec.ofChange diskActsWrong)

/-- 'monticulelaw01.OctetCuts': WHATEVER THE INPUT: true; the input reads as it did. -/
def octetCutsSpec : ChangeSpec := { name := "octetCuts", fn := fun _ => fun
  | [d1, d2, d3] => { results := [.lit (.bool true)], args := [d1, d2, d3] }
  | _ => none }
def octetCutsRow : OpenClaim := { program := "ytdllafmponmkmaa", sum := "38a14b200acf0283f4f4aa9aab134fef38a1077b1a1fbf63ae96a9851c75fb50", func := "monticule/monticulelaw01.OctetCuts", spec := "octetCuts", apart := false }
def OctetCutsSaid : Prop := octetCutsRow.holds Try.pinned (OpenSpec.ofChange octetCutsSpec)

/-- ITS FALSE NEIGHBOUR: 'it returns false'. Refute it at one input. -/
def octetCutsWrong : ChangeSpec := { name := "octetCuts", fn := fun _ => fun
  | [d1, d2, d3] => { results := [.lit (.bool false)], args := [d1, d2, d3] }
  | _ => none }
def OctetCutsWrongFalsely : Prop := octetCutsRow.holds Try.pinned (OpenSpec.ofChange octetCutsWrong)

/-- 'monticulelaw24.FrameDoes': WHATEVER THE INPUT: true; the input reads as it did. -/
def frameDoesSpec : ChangeSpec := { name := "frameDoes", fn := fun _ => fun
  | [d] => { results := [.lit (.bool true)], args := [d] }
  | _ => none }
def frameDoesRow : OpenClaim := { program := "ytdllafmponmkmaa", sum := "38a14b200acf0283f4f4aa9aab134fef38a1077b1a1fbf63ae96a9851c75fb50", func := "monticule/monticulelaw24.FrameDoes", spec := "frameDoes", unfollowed := true, recurses := true, apart := false }
def FrameDoesSaid : Prop := frameDoesRow.holds Try.pinned (OpenSpec.ofChange frameDoesSpec)

/-- ITS FALSE NEIGHBOUR: 'it returns false'. Refute it at one input. -/
def frameDoesWrong : ChangeSpec := { name := "frameDoes", fn := fun _ => fun
  | [d] => { results := [.lit (.bool false)], args := [d] }
  | _ => none }
def FrameDoesWrongFalsely : Prop := frameDoesRow.holds Try.pinned (OpenSpec.ofChange frameDoesWrong)

/-- 'monticulelaw01.OctetReads': WHATEVER THE INPUT: true; the input reads as it did. -/
def octetReadsSpec : ChangeSpec := { name := "octetReads", fn := fun _ => fun
  | [d1, d2] => { results := [.lit (.bool true)], args := [d1, d2] }
  | _ => none }
def octetReadsRow : OpenClaim := { program := "ytdllafmponmkmaa", sum := "38a14b200acf0283f4f4aa9aab134fef38a1077b1a1fbf63ae96a9851c75fb50", func := "monticule/monticulelaw01.OctetReads", spec := "octetReads", apart := false }
def OctetReadsSaid : Prop := octetReadsRow.holds Try.pinned (OpenSpec.ofChange octetReadsSpec)

/-- ITS FALSE NEIGHBOUR: 'it returns false'. Refute it at one input. -/
def octetReadsWrong : ChangeSpec := { name := "octetReads", fn := fun _ => fun
  | [d1, d2] => { results := [.lit (.bool false)], args := [d1, d2] }
  | _ => none }
def OctetReadsWrongFalsely : Prop := octetReadsRow.holds Try.pinned (OpenSpec.ofChange octetReadsWrong)

/-- 'monticulelaw01.OctetBack': WHATEVER THE INPUT: true; the input reads as it did. -/
def octetBackSpec : ChangeSpec := { name := "octetBack", fn := fun _ => fun
  | [d1, d2] => { results := [.lit (.bool true)], args := [d1, d2] }
  | _ => none }
def octetBackRow : OpenClaim := { program := "ytdllafmponmkmaa", sum := "38a14b200acf0283f4f4aa9aab134fef38a1077b1a1fbf63ae96a9851c75fb50", func := "monticule/monticulelaw01.OctetBack", spec := "octetBack", apart := false }
def OctetBackSaid : Prop := octetBackRow.holds Try.pinned (OpenSpec.ofChange octetBackSpec)

/-- ITS FALSE NEIGHBOUR: 'it returns false'. Refute it at one input. -/
def octetBackWrong : ChangeSpec := { name := "octetBack", fn := fun _ => fun
  | [d1, d2] => { results := [.lit (.bool false)], args := [d1, d2] }
  | _ => none }
def OctetBackWrongFalsely : Prop := octetBackRow.holds Try.pinned (OpenSpec.ofChange octetBackWrong)

/- THE SECOND FORM. 'bulk': how many values and letters a reading holds, each counted each time it is reached (what is shared counts as often as it is met; a slice's spare places count too). A statement '..UptoSaid' is the law's where the arguments, and the package variables that the reading takes, are together of bulk at most 1048576: NARROWER than '..Said'. Prove '..Said' where nothing that the law and all that it calls make is longer than what came in: it says more and counts as full. Else prove '..UptoSaid'. A law counts once. -/
mutual
def uptoBulk {H : Type} : DataW H → Nat
  | .lit (.string bytes) => bytes.length + 1
  | .lit _ => 1
  | .nil => 1
  | .ptr d => uptoBulk d + 1
  | .slice elems spare => uptoBulkAll elems + uptoBulkAll spare + 1
  | .agg parts => uptoBulkAll parts + 1
  | .iface _ d => uptoBulk d + 1
  | .map entries => uptoBulkEntries entries + 1
  | .held _ => 1
def uptoBulkAll {H : Type} : List (DataW H) → Nat
  | [] => 0
  | d :: r => uptoBulk d + uptoBulkAll r
def uptoBulkEntries {H : Type} : List (Lit × DataW H) → Nat
  | [] => 0
  | x :: r => uptoBulkEntry x + uptoBulkEntries r
def uptoBulkEntry {H : Type} : Lit × DataW H → Nat
  | (.string bytes, d) => bytes.length + uptoBulk d + 1
  | (_, d) => uptoBulk d + 1
 end
def uptoSmall : (H : Type) → List (DataW H) → Bool := fun _ ds => decide (uptoBulkAll ds ≤ 1048576)
def OpenSpec.upto (s : _root_.Go.ChangeSpec) : _root_.Go.OpenSpec := { _root_.Go.OpenSpec.ofChange s with cond := some uptoSmall }

/-- 'monticulelaw02.CrcSums', WHERE WHAT IT READS IS OF BULK AT MOST 1048576: true; the input reads as it did. -/
def crcSumsUptoRow : OpenClaim := { program := "ytdllafmponmkmaa", sum := "38a14b200acf0283f4f4aa9aab134fef38a1077b1a1fbf63ae96a9851c75fb50", func := "monticule/monticulelaw02.CrcSums", spec := "crcSums", apart := false, narrowed := true }
def CrcSumsUptoSaid : Prop := crcSumsUptoRow.holds Try.pinned (OpenSpec.upto crcSumsSpec)

/-- 'monticulelaw01.OctetWrites', WHERE WHAT IT READS IS OF BULK AT MOST 1048576: true; the input reads as it did. -/
def octetWritesUptoRow : OpenClaim := { program := "ytdllafmponmkmaa", sum := "38a14b200acf0283f4f4aa9aab134fef38a1077b1a1fbf63ae96a9851c75fb50", func := "monticule/monticulelaw01.OctetWrites", spec := "octetWrites", apart := false, narrowed := true }
def OctetWritesUptoSaid : Prop := octetWritesUptoRow.holds Try.pinned (OpenSpec.upto octetWritesSpec)

/-- 'monticulelaw02.CrcOpens', WHERE WHAT IT READS IS OF BULK AT MOST 1048576: true; the input reads as it did. -/
def crcOpensUptoRow : OpenClaim := { program := "ytdllafmponmkmaa", sum := "38a14b200acf0283f4f4aa9aab134fef38a1077b1a1fbf63ae96a9851c75fb50", func := "monticule/monticulelaw02.CrcOpens", spec := "crcOpens", apart := false, narrowed := true }
def CrcOpensUptoSaid : Prop := crcOpensUptoRow.holds Try.pinned (OpenSpec.upto crcOpensSpec)

/-- 'monticulelaw02.CrcTells', WHERE WHAT IT READS IS OF BULK AT MOST 1048576: true; the input reads as it did. -/
def crcTellsUptoRow : OpenClaim := { program := "ytdllafmponmkmaa", sum := "38a14b200acf0283f4f4aa9aab134fef38a1077b1a1fbf63ae96a9851c75fb50", func := "monticule/monticulelaw02.CrcTells", spec := "crcTells", apart := false, narrowed := true }
def CrcTellsUptoSaid : Prop := crcTellsUptoRow.holds Try.pinned (OpenSpec.upto crcTellsSpec)

/-- 'monticulelaw24.FrameDeep', WHERE WHAT IT READS IS OF BULK AT MOST 1048576: true; the input reads as it did. -/
def frameDeepUptoRow : OpenClaim := { program := "ytdllafmponmkmaa", sum := "38a14b200acf0283f4f4aa9aab134fef38a1077b1a1fbf63ae96a9851c75fb50", func := "monticule/monticulelaw24.FrameDeep", spec := "frameDeep", unfollowed := true, recurses := true, apart := false, narrowed := true }
def FrameDeepUptoSaid : Prop := frameDeepUptoRow.holds Try.pinned (OpenSpec.upto frameDeepSpec)

/-- 'monticulelaw03.DiskSure', WHERE WHAT IT READS IS OF BULK AT MOST 1048576: true; the input reads as it did. -/
def diskSureUptoRow : OpenClaim := { program := "ytdllafmponmkmaa", sum := "38a14b200acf0283f4f4aa9aab134fef38a1077b1a1fbf63ae96a9851c75fb50", func := "monticule/monticulelaw03.DiskSure", spec := "diskSure", apart := false, narrowed := true }
def DiskSureUptoSaid : Prop := diskSureUptoRow.holds Try.pinned (OpenSpec.upto diskSureSpec)

/-- 'monticulelaw03.DiskSizes', WHERE WHAT IT READS IS OF BULK AT MOST 1048576: true; the input reads as it did. -/
def diskSizesUptoRow : OpenClaim := { program := "ytdllafmponmkmaa", sum := "38a14b200acf0283f4f4aa9aab134fef38a1077b1a1fbf63ae96a9851c75fb50", func := "monticule/monticulelaw03.DiskSizes", spec := "diskSizes", apart := false, narrowed := true }
def DiskSizesUptoSaid : Prop := diskSizesUptoRow.holds Try.pinned (OpenSpec.upto diskSizesSpec)

/-- 'monticulelaw03.DiskActs', WHERE WHAT IT READS IS OF BULK AT MOST 1048576: true; the input reads as it did. -/
def diskActsUptoRow : OpenClaim := { program := "ytdllafmponmkmaa", sum := "38a14b200acf0283f4f4aa9aab134fef38a1077b1a1fbf63ae96a9851c75fb50", func := "monticule/monticulelaw03.DiskActs", spec := "diskActs", apart := false, narrowed := true }
def DiskActsUptoSaid : Prop := diskActsUptoRow.holds Try.pinned (OpenSpec.upto diskActsSpec)

/-- 'monticulelaw01.OctetCuts', WHERE WHAT IT READS IS OF BULK AT MOST 1048576: true; the input reads as it did. -/
def octetCutsUptoRow : OpenClaim := { program := "ytdllafmponmkmaa", sum := "38a14b200acf0283f4f4aa9aab134fef38a1077b1a1fbf63ae96a9851c75fb50", func := "monticule/monticulelaw01.OctetCuts", spec := "octetCuts", apart := false, narrowed := true }
def OctetCutsUptoSaid : Prop := octetCutsUptoRow.holds Try.pinned (OpenSpec.upto octetCutsSpec)

/-- 'monticulelaw24.FrameDoes', WHERE WHAT IT READS IS OF BULK AT MOST 1048576: true; the input reads as it did. -/
def frameDoesUptoRow : OpenClaim := { program := "ytdllafmponmkmaa", sum := "38a14b200acf0283f4f4aa9aab134fef38a1077b1a1fbf63ae96a9851c75fb50", func := "monticule/monticulelaw24.FrameDoes", spec := "frameDoes", unfollowed := true, recurses := true, apart := false, narrowed := true }
def FrameDoesUptoSaid : Prop := frameDoesUptoRow.holds Try.pinned (OpenSpec.upto frameDoesSpec)

/-- 'monticulelaw01.OctetReads', WHERE WHAT IT READS IS OF BULK AT MOST 1048576: true; the input reads as it did. -/
def octetReadsUptoRow : OpenClaim := { program := "ytdllafmponmkmaa", sum := "38a14b200acf0283f4f4aa9aab134fef38a1077b1a1fbf63ae96a9851c75fb50", func := "monticule/monticulelaw01.OctetReads", spec := "octetReads", apart := false, narrowed := true }
def OctetReadsUptoSaid : Prop := octetReadsUptoRow.holds Try.pinned (OpenSpec.upto octetReadsSpec)

/-- 'monticulelaw01.OctetBack', WHERE WHAT IT READS IS OF BULK AT MOST 1048576: true; the input reads as it did. -/
def octetBackUptoRow : OpenClaim := { program := "ytdllafmponmkmaa", sum := "38a14b200acf0283f4f4aa9aab134fef38a1077b1a1fbf63ae96a9851c75fb50", func := "monticule/monticulelaw01.OctetBack", spec := "octetBack", apart := false, narrowed := true }
def OctetBackUptoSaid : Prop := octetBackUptoRow.holds Try.pinned (OpenSpec.upto octetBackSpec)

end Rows
end Go.Proofs.Ytdllafmponmkmaa
