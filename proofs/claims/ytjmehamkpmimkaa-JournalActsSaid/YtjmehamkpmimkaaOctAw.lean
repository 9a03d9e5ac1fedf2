/- The example of the laws of layer 1. -/
import Derived.Test.YtjmehamkpmimkaaOctY
namespace Go.Proofs.Ytjmehamkpmimkaa
open Go.RowKit

theorem Mod.fresh {B : Nat} {a b : World} (h : Mod (fun k => B ≤ k) a b) (hB : a.heap.size ≤ B) : Mod Nil a b := h.mono fun i hi hk => by omega

theorem wr_new (w : World) : WrAt w.heap.size (w.alloc (.cells #[.slice none 0 0, .int .i64 0] 131)) w.heap.size (.slice none 0 0) ([], 0) :=
  ⟨Blk.new _ _ _, World.ownsRow_nil _ _ _ _, Nat.le_refl _⟩

theorem awake1_example : wText [97, 98] (wNum 258 ([], 0)) = ([0, 0, 1, 2, 0, 0, 0, 2, 97, 98], 0) := by decide +kernel

end Go.Proofs.Ytjmehamkpmimkaa
