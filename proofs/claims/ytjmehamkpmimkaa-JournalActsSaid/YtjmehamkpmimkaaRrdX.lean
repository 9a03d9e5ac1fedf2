/- Contracts of the document's reader: Text, Texts; Same. -/
import Derived.Test.YtjmehamkpmimkaaRrdW
namespace Go.Proofs.Ytjmehamkpmimkaa
open Go.RowKit

theorem rNum_pos {s : RSt} (h : (rNum s).2.2 = 0) : s.2 = 0 := by
  by_cases hs : s.2 = 0
  · exact hs
  · rw [rNum_err s hs] at h; exact h

/-- What is written to a new block and to block g turns only block g. -/
theorem mod_new {g : Nat} {w a b : World} (h : Mod (fun k => k = g) w a) (hm : Mod (fun k => k = w.heap.size) a b) : Mod (fun k => k = g) w b :=
  h.trans' hm (fun _ _ h => h) (fun k hk hk' => by omega)

theorem Mod.put0 {w w1 : World} (h : Mod Nil w w1) (g i : Nat) (v : Value) : Mod (fun k => k = g) w (w1.setCell ⟨g, i, none⟩ v) := (h.any (F := fun k => k = g)).set (p := ⟨g, i, none⟩) (.inl rfl) v
theorem Mod.put1 {w w1 : World} (h : Mod Nil w w1) (g x i j : Nat) (u v : Value) (hx : w.heap.size ≤ x) : Mod (fun k => k = g) w ((w1.setCell ⟨x, j, none⟩ u).setCell ⟨g, i, none⟩ v) := ((h.any (F := fun k => k = g)).set (p := ⟨x, j, none⟩) (.inr hx) u).set (p := ⟨g, i, none⟩) (.inl rfl) v

/-- Where the document's Texts stands. -/
def RtAt (g gx : Nat) (s : RSt) (w : World) (N : Nat) (s1 : RSt) (k : Nat) (v : Value) (wr : World) : Prop :=
  ∃ (out : List (List UInt8)) (sk : RSt), wr.ownsRow w.heap.size 9 1 v k (out.map sv) ∧ RrdAt wr gx sk ∧ RrdAt wr g s ∧ Mod Nil w wr ∧ sk.1.length ≤ 1000000000 ∧ rLoop N s1 = (out ++ (rLoop (N - k) sk).1, (rLoop (N - k) sk).2)

theorem drewN_drewN (w : World) (a b : Nat) : ∃ k, (w.drewN a).drewN b = w.drewN k := ⟨a + b, by simp [World.drewN, Nat.add_assoc]⟩

end Go.Proofs.Ytjmehamkpmimkaa
