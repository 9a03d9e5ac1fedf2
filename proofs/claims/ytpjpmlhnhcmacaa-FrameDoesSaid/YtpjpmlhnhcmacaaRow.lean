/- An argument of octets, opened; what every row of a law wants. -/
import Derived.Test.YtpjpmlhnhcmacaaRows
import Derived.Test.YtpjpmlhnhcmacaaStr
import Derived.ProofKit
import Derived.OpenShut
import Derived.ShutString
import Derived.ChangeOld
namespace Go.Proofs.Ytpjpmlhnhcmacaa
open Go.RowKit Go.ChangeShapes Go.WideShapes Go.ChangeAt
open Go.ChangeMaps (open_string shut_string)

theorem own_ : ownKnob Try.prog.godebug = none := by kernel_rfl
theorem laidOut_ : laidOutB Try.prog = true := by kernel_rfl

theorem wf_u8 {x : Int} (h : (Lit.int .u8 x).wf = true) : 0 ≤ x ∧ x < 256 := by
  have := bounds_u8 h
  omega

end Go.Proofs.Ytpjpmlhnhcmacaa
