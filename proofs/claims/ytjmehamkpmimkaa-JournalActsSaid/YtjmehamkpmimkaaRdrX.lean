/- Contracts of octet.Reader: Text, Texts. -/
import Derived.Test.YtjmehamkpmimkaaRdrP
namespace Go.Proofs.Ytjmehamkpmimkaa
open Go.RowKit

theorem RdrAt.blk_ {S : Nat → Prop} {g : Nat} {w : World} {s : RSt} (h : RdrAt S w g s) : ∃ A c, Blk w g 136 #[.slice A s.1.length c, .int .i64 s.2] ∧ s.1.length ≤ c ∧ c ≤ maxLen ∧ Rd S w A (s.1.map bv) ∧ ¬ S g := h

theorem RdrAt.back {S : Nat → Prop} {g : Nat} {w : World} {s : RSt} {l0 : List UInt8} {A0 : Option Addr} {c0 : Nat} (h : RdrAt S w g s) (hr : Rd S w A0 (l0.map bv)) (hc : l0.length ≤ c0) (hm : c0 ≤ maxLen) :
    RdrAt S (w.setCell ⟨g, 0, none⟩ (.slice A0 l0.length c0)) g (l0, s.2) := by
  obtain ⟨A, c, h1, _, _, _, hB⟩ := h
  exact ⟨A0, c0, by simpa using h1.set_ 0 _, hc, hm, rd_far hr (fun k hk hkg => hB (hkg ▸ hk)), hB⟩

theorem at_g {S : Nat → Prop} {g : Nat} {w w1 : World} {A : Option Addr} {xs : List Value} (h : Rd S w A xs) (hg : ¬ S g) (hm : Mod (fun k => k = g) w w1) : Rd S w1 A xs := h.keep hm (fun k hk hkg => hg (hkg ▸ hk))

/-- The value of a text. -/
def sv (l : List UInt8) : Value := .string (str l)
theorem str_info : (Try.prog.info? 9).map (fun i => (i.zero, i.size, i.bytes)) = some (some (.string ⟨#[]⟩), 1, 16) := by kernel_rfl

theorem rLoop_err (n : Nat) (s : RSt) (h : s.2 ≠ 0) : rLoop n s = ([], s) := by
  cases n with
  | zero => rfl
  | succ n => rw [rLoop, if_neg h]
theorem rLoop_step (n : Nat) (s : RSt) (h : s.2 = 0) : rLoop (n + 1) s = ((rText s).1 :: (rLoop n (rText s).2).1, (rLoop n (rText s).2).2) := by rw [rLoop, if_pos h]

/-- Where Texts stands. -/
def TxAt (S : Nat → Prop) (g : Nat) (w : World) (N : Nat) (s1 : RSt) (k : Nat) (v : Value) (wr : World) : Prop :=
  ∃ (out : List (List UInt8)) (sk : RSt), wr.ownsRow w.heap.size 9 1 v k (out.map sv) ∧ RdrAt S wr g sk ∧ Mod (fun j => j = g) w wr ∧ rLoop N s1 = (out ++ (rLoop (N - k) sk).1, (rLoop (N - k) sk).2)

end Go.Proofs.Ytjmehamkpmimkaa
