/- A region that draws and writes once: its two worlds. -/
import Derived.Test.YtpjpmlhnhcmacaaGreatDoorFlow5
namespace Go.Proofs.YtpjpmlhnhcmacaaGreatDoor
open Go.RowKit

structure PhSt (W W' : World) (k : Nat) (h : Hist) (w : World) : Prop where
  s0 : k = 0 → w = W
  s1 : k = 1 → w = W'
theorem PhSt.init (W W' : World) (h : Hist) : PhSt W W' 0 h W := ⟨fun _ => rfl, fun h => absurd h (by decide)⟩
theorem PhSt.done (W W' : World) (h : Hist) : PhSt W W' 1 h W' := ⟨fun h => absurd h (by decide), fun _ => rfl⟩
end Go.Proofs.YtpjpmlhnhcmacaaGreatDoor
