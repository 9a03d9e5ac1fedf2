/- Steps of a walk on an abstract frame: from region to region, out of a block; a region that only reads. -/
import Derived.Test.YtpjpmlhnhcmacaaGreatDoorFlow5
namespace Go.Proofs.YtpjpmlhnhcmacaaGreatDoor
open Go.RowKit

theorem sl_nil {P : Program} {ops : Array Oper} {y : Code} {Q : Exit → Act → World → Prop} {a : Act} {w : World} (h : Code.wp P y Q a w) : wpList P ops (Exit.then (Code.wp P y Q) Q) [] a w := h
theorem sl_then {P : Program} {y : Code} {Q : Exit → Act → World → Prop} {a : Act} {w : World} (h : Code.wp P y Q a w) : Exit.then (Code.wp P y Q) Q .normal a w := h
theorem sl_blk {P : Program} {id : Nat} {y : Code} {Q Q' : Exit → Act → World → Prop} {a : Act} {w : World} (h : Code.wp P y Q a w) : Exit.inBlock id (Exit.then (Code.wp P y Q) Q') .normal a w := h
theorem sl_exit {id : Nat} {Q : Exit → Act → World → Prop} {a : Act} {w : World} (h : Q .normal a w) : Exit.inBlock id Q (.exit id) a w := by
  simp [Exit.inBlock, h]

/-- A region that turns nothing. -/
structure PhEq (W : World) (k : Nat) (h : Hist) (w : World) : Prop where
  eq : w = W
end Go.Proofs.YtpjpmlhnhcmacaaGreatDoor
