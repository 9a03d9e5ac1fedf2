/- The document's Token: its two blocks, its end. -/
import Derived.Test.YtpjpmlhnhcmacaaGreatDoorRnT
import Derived.Test.YtpjpmlhnhcmacaaGreatDoorAb2
import Derived.Test.YtpjpmlhnhcmacaaGreatDoorScP
import Derived.Outline
import Derived.WalkMore
namespace Go.Proofs.YtpjpmlhnhcmacaaGreatDoor
open Go.RowKit

noncomputable def rtBody : Code := (Tryz.f16.body).getD .skip

def tokArr (t : Tok) (a : Nat) : Array Value := #[.int .i64 t.kind, .string (str t.text), .int .i64 t.n, .int .i64 a]
/-- The token's block and the result's. -/
structure TW (w0 w : World) (g4 g7 : Nat) (t : Tok) (a : Nat) : Prop where
  b4 : Blk w g4 32 tok0
  b7 : Blk w g7 32 (tokArr t a)
  ne : g4 ≠ g7
  n4 : w0.heap.size ≤ g4
  n7 : w0.heap.size ≤ g7
  mod : Mod Nil w0 w
theorem TW.keep {w0 w w' : World} {g4 g7 a : Nat} {t : Tok} (h : TW w0 w g4 g7 t a) (hm : Mod Nil w w') : TW w0 w' g4 g7 t a :=
  ⟨h.b4.keep hm id, h.b7.keep hm id, h.ne, h.n4, h.n7, h.mod.trans hm⟩
theorem TW.set0 {w0 w : World} {g4 g7 a : Nat} {t : Tok} (h : TW w0 w g4 g7 t a) (k : Nat) : TW w0 (w.setCell ⟨g7, 0, none⟩ (.int .i64 k)) g4 g7 { t with kind := k } a :=
  ⟨h.b4.far (p := ⟨g7, 0, none⟩) h.ne _, by have := h.b7.set_ 0 (.int .i64 k); simpa [tokArr] using this, h.ne, h.n4, h.n7, h.mod.set (.inr h.n7) _⟩
theorem TW.set1 {w0 w : World} {g4 g7 a : Nat} {t : Tok} (h : TW w0 w g4 g7 t a) (s : List UInt8) : TW w0 (w.setCell ⟨g7, 1, none⟩ (.string (str s))) g4 g7 { t with text := s } a :=
  ⟨h.b4.far (p := ⟨g7, 1, none⟩) h.ne _, by have := h.b7.set_ 1 (.string (str s)); simpa [tokArr] using this, h.ne, h.n4, h.n7, h.mod.set (.inr h.n7) _⟩
theorem TW.set2 {w0 w : World} {g4 g7 a : Nat} {t : Tok} (h : TW w0 w g4 g7 t a) (n : Nat) : TW w0 (w.setCell ⟨g7, 2, none⟩ (.int .i64 n)) g4 g7 { t with n := n } a :=
  ⟨h.b4.far (p := ⟨g7, 2, none⟩) h.ne _, by have := h.b7.set_ 2 (.int .i64 n); simpa [tokArr] using this, h.ne, h.n4, h.n7, h.mod.set (.inr h.n7) _⟩
theorem TW.facts {w0 w : World} {g4 g7 a : Nat} {t : Tok} (h : TW w0 w g4 g7 t a) :
    w.cell? ⟨g7, 0, none⟩ = some (.int .i64 t.kind) ∧ w.cell? ⟨g7, 1, none⟩ = some (.string (str t.text)) ∧ w.cell? ⟨g7, 2, none⟩ = some (.int .i64 t.n) ∧ w.cell? ⟨g7, 3, none⟩ = some (.int .i64 a) ∧
      w.frozen? ⟨g7, 0, none⟩ = false ∧ w.frozen? ⟨g7, 1, none⟩ = false ∧ w.frozen? ⟨g7, 2, none⟩ = false :=
  ⟨h.b7.cell 0, h.b7.cell 1, h.b7.cell 2, h.b7.cell 3, h.b7.frozen 0, h.b7.frozen 1, h.b7.frozen 2⟩
theorem TW.facts4 {w0 w : World} {g4 g7 a : Nat} {t : Tok} (h : TW w0 w g4 g7 t a) :
    w.cell? ⟨g4, 0, none⟩ = some (.int .i64 0) ∧ w.cell? ⟨g4, 1, none⟩ = some (.string ⟨#[]⟩) ∧ w.cell? ⟨g4, 2, none⟩ = some (.int .i64 0) ∧ w.cell? ⟨g4, 3, none⟩ = some (.int .i64 0) ∧
      w.frozen? ⟨g4, 0, none⟩ = false ∧ w.frozen? ⟨g4, 1, none⟩ = false ∧ w.frozen? ⟨g4, 2, none⟩ = false ∧ w.frozen? ⟨g4, 3, none⟩ = false := tok_facts h.b4

/-- Left by a return. -/
structure RetP (Q : Exit → Act → World → Prop) (e : Exit) (a : Act) (w : World) : Prop where
  is : e = .ret
  out : Q .ret a w
theorem wp_ret_then {P : Program} {c : Code} {Q : Exit → Act → World → Prop} {X : Act → World → Prop} {a : Act} {w : World} (h : c.wp P (RetP Q) a w) : c.wp P (Exit.then X Q) a w :=
  Code.wp_mono (fun _ _ _ hq => by obtain ⟨rfl, h⟩ := hq; exact h) h
theorem wp_ret_out {P : Program} {c : Code} {Q : Exit → Act → World → Prop} {a : Act} {w : World} (h : c.wp P (RetP Q) a w) : c.wp P Q a w :=
  Code.wp_mono (fun _ _ _ hq => by obtain ⟨rfl, h⟩ := hq; exact h) h

/-- What Token hands back. -/
def RTok (l : List UInt8) (a : Nat) (w : World) (e : Ending) (w' : World) : Prop :=
  ∃ (t : Tok) (z : Int), e = .returned (.tuple #[tokV t a, .int .i64 z]) ∧ (∀ t' k, tokL (l.drop a) = some (t', k) → t = t' ∧ z = (a + k : Nat)) ∧ (tokL (l.drop a) = none → z = -1) ∧ Mod Nil w w'

theorem rtok_end {L : List (Tmp × Value)} {l : List UInt8} {a : Nat} {w0 w : World} {ac : Act} {g4 g7 : Nat} {t : Tok} {z : Int} (HF : Sl 260 L ac) (h4 : look L 4 = some (.pointer (some ⟨g4, 0, none⟩))) (h5 : look L 5 = some (.int .i64 z))
    (h : TW w0 w g4 g7 t a) (hs : ∀ t' k, tokL (l.drop a) = some (t', k) → t = t' ∧ z = (a + k : Nat)) (hn : tokL (l.drop a) = none → z = -1) :
    bodyPost Tryz.prog Tryz.f16 (fun e w' => RTok l a w0 e w') .ret ac (tokSet w g4 t a) := by
  have e4 : ac.tmps.getD 4 undef = .pointer (some ⟨g4, 0, none⟩) := by simpa using HF.see 4 h4
  have e5 : ac.tmps.getD 5 undef = .int .i64 z := by simpa using HF.see 5 h5
  refine bodyPost_ret (v := .tuple #[tokV t a, .int .i64 z]) ?_ HF.nd ⟨t, z, rfl, hs, hn, tokSet_mod h.mod (.inr h.n4) t a⟩
  rw [results_cell_tmp rfl, e4]
  have := tok_load (tokSet_blk h.b4 rfl t a) rfl
  simp [asAddr, Result.andThen, this, tokV]
  simpa using e5
end Go.Proofs.YtpjpmlhnhcmacaaGreatDoor
