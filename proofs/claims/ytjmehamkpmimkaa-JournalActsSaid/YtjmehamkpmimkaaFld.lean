/- The law's fields, as they lie in memory; the law's example; which fields are small. -/
import Derived.Test.YtjmehamkpmimkaaOctY
namespace Go.Proofs.Ytjmehamkpmimkaa
open Go.RowKit

/-- A field of the laws of layer 1. -/
structure Fld where
  kind : Int
  n : Int
  s : ByteArray
  l : List ByteArray

/-- The cells of a field. -/
def FldAt (S : Nat → Prop) (w : World) (b off : Nat) (f : Fld) : Prop :=
  w.cell? ⟨b, off, none⟩ = some (.int .i64 f.kind) ∧ w.cell? ⟨b, off + 1, none⟩ = some (.int .i64 f.n) ∧ w.cell? ⟨b, off + 2, none⟩ = some (.string f.s) ∧
  ∃ B c, w.cell? ⟨b, off + 3, none⟩ = some (.slice B f.l.length c) ∧ f.l.length ≤ maxLen ∧ f.s.size ≤ maxLen ∧ (∀ t ∈ f.l, t.size ≤ maxLen) ∧ Rd S w B (f.l.map Value.string)

def FldsAt (S : Nat → Prop) (w : World) (A : Option Addr) (fs : List Fld) : Prop :=
  0 < fs.length → ∃ b o, A = some ⟨b, o, none⟩ ∧ S b ∧ b < w.heap.size ∧ ∀ (i : Nat) (f : Fld), fs[i]? = some f → FldAt S w b (o + i * 4) f

theorem FldAt.keep {S F : Nat → Prop} {w w' : World} {b off : Nat} {f : Fld} (h : FldAt S w b off f) (hb : b < w.heap.size) (hs : S b) (hm : Mod F w w') (hS : ∀ b, S b → ¬ F b) : FldAt S w' b off f := by
  obtain ⟨h0, h1, h2, B, c, h3, h4, h5, h6, h7⟩ := h
  have hk : ∀ o, w'.cell? ⟨b, o, none⟩ = w.cell? ⟨b, o, none⟩ := fun o => hm.cell hb (hS _ hs)
  exact ⟨(hk _).trans h0, (hk _).trans h1, (hk _).trans h2, B, c, (hk _).trans h3, h4, h5, h6, h7.keep hm hS⟩

theorem FldsAt.keep {S F : Nat → Prop} {w w' : World} {A : Option Addr} {fs : List Fld} (h : FldsAt S w A fs) (hm : Mod F w w') (hS : ∀ b, S b → ¬ F b) : FldsAt S w' A fs := fun hn => by
  obtain ⟨b, o, e, hs, hb, hf⟩ := h hn
  exact ⟨b, o, e, hs, Nat.lt_of_lt_of_le hb hm.size, fun i f hi => (hf i f hi).keep hb hs hm hS⟩

/-- Which fields are small. -/
def fldSmall (f : Fld) : Bool := f.s.size ≤ 200 && f.l.length ≤ 20 && f.l.all fun t => t.size ≤ 100
def fldsSmall (fs : List Fld) : Bool := fs.length ≤ 20 && fs.all fldSmall

end Go.Proofs.Ytjmehamkpmimkaa
