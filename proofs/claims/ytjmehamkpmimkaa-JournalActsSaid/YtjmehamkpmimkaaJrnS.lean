/- A disk since a call began: what has turned lies in its blocks, or is new. -/
import Derived.Test.YtjmehamkpmimkaaRdkC
import Derived.Test.YtjmehamkpmimkaaJrnQ
namespace Go.Proofs.Ytjmehamkpmimkaa
open Go.RowKit

/-- The disk has come to s since w0; only its blocks, and new ones, have turned. -/
def DSince (B : Nat) (w0 : World) (g : Nat) (F0 : Nat → Prop) (s : DSt) (wr : World) : Prop := ∃ F, DskAt B wr g F s ∧ Mod F0 w0 wr ∧ ∀ k, F k → F0 k ∨ w0.heap.size ≤ k
/-- The same of the document's disk. -/
def RSince (B : Nat) (w0 : World) (g : Nat) (F0 : Nat → Prop) (s : DSt) (wr : World) : Prop := ∃ F, RdkAt B wr g F s ∧ Mod F0 w0 wr ∧ ∀ k, F k → F0 k ∨ w0.heap.size ≤ k

section
variable {B g : Nat} {w0 wr w1 : World} {F0 F F1 : Nat → Prop} {s s1 : DSt}
theorem DSince.refl (h : DskAt B w0 g F0 s) : DSince B w0 g F0 s w0 := ⟨F0, h, Mod.refl _ _, fun _ h => .inl h⟩
theorem RSince.refl (h : RdkAt B w0 g F0 s) : RSince B w0 g F0 s w0 := ⟨F0, h, Mod.refl _ _, fun _ h => .inl h⟩
theorem DSince.keep0 (h : DSince B w0 g F0 s wr) (hm : Mod Nil wr w1) : DSince B w0 g F0 s w1 := by
  obtain ⟨F, h1, h2, h3⟩ := h
  exact ⟨F, h1.keep0 hm, h2.trans hm.any, h3⟩
theorem RSince.keep0 (h : RSince B w0 g F0 s wr) (hm : Mod Nil wr w1) : RSince B w0 g F0 s w1 := by
  obtain ⟨F, h1, h2, h3⟩ := h
  exact ⟨F, h1.keep0 hm, h2.trans hm.any, h3⟩
theorem dsince_step (hm : Mod F0 w0 wr) (hF : ∀ k, F k → F0 k ∨ w0.heap.size ≤ k) (h1 : DskAt B w1 g F1 s1) (hm1 : Mod F wr w1) (hF1 : ∀ k, F1 k → F k ∨ wr.heap.size ≤ k) : DSince B w0 g F0 s1 w1 := by
  refine ⟨F1, h1, hm.trans' hm1 (fun _ _ h => h) (fun k hk hkF => (hF k hkF).elim id (fun h => by omega)), fun k hk => ?_⟩
  rcases hF1 k hk with h | h
  · exact hF k h
  · exact .inr (Nat.le_trans hm.size h)
theorem rsince_step (hm : Mod F0 w0 wr) (hF : ∀ k, F k → F0 k ∨ w0.heap.size ≤ k) (h1 : RdkAt B w1 g F1 s1) (hm1 : Mod F wr w1) (hF1 : ∀ k, F1 k → F k ∨ wr.heap.size ≤ k) : RSince B w0 g F0 s1 w1 := by
  refine ⟨F1, h1, hm.trans' hm1 (fun _ _ h => h) (fun k hk hkF => (hF k hkF).elim id (fun h => by omega)), fun k hk => ?_⟩
  rcases hF1 k hk with h | h
  · exact hF k h
  · exact .inr (Nat.le_trans hm.size h)
theorem DSince.post (h : DSince B w0 g F0 s wr) (e : Ending) : DskPost B w0 g F0 s e e wr := by
  obtain ⟨F, h1, h2, h3⟩ := h
  exact ⟨rfl, F, h1, h2, h3⟩
theorem RSince.post (h : RSince B w0 g F0 s wr) (e : Ending) : RdkPost B w0 g F0 s e e wr := by
  obtain ⟨F, h1, h2, h3⟩ := h
  exact ⟨rfl, F, h1, h2, h3⟩
theorem DSince.mod (h : DSince B w0 g F0 s wr) : Mod F0 w0 wr := by
  obtain ⟨F, h1, h2, h3⟩ := h
  exact h2
theorem RSince.mod (h : RSince B w0 g F0 s wr) : Mod F0 w0 wr := by
  obtain ⟨F, h1, h2, h3⟩ := h
  exact h2
end

/-! ### how a disk grows by a call -/
/-- Bounds that hold on: what waits, and the power. -/
def Grows (m : Nat) (s s' : DSt) : Prop := s'.S.length = s.S.length ∧ s'.ws.length ≤ s.ws.length + m ∧ s'.left ≤ s.left
theorem Grows.refl (s : DSt) : Grows 0 s s := ⟨rfl, Nat.le_refl _, Int.le_refl _⟩
theorem Grows.trans {m n : Nat} {a b c : DSt} (h : Grows m a b) (k : Grows n b c) : Grows (m + n) a c := ⟨k.1.trans h.1, by have := h.2.1; have := k.2.1; omega, Int.le_trans k.2.2 h.2.2⟩
theorem Grows.mono {m n : Nat} {a b : DSt} (h : Grows m a b) (hmn : m ≤ n) : Grows n a b := ⟨h.1, by have := h.2.1; omega, h.2.2⟩
theorem spend_left_ (s : DSt) : s.spend.left ≤ s.left := by
  unfold DSt.spend; split
  · show s.left - 1 ≤ s.left; omega
  · exact Int.le_refl _
theorem write_grows (s : DSt) (n : Int) (b : List UInt8) : Grows 1 s (s.write n b).1 := by
  obtain ⟨p1, p2, _⟩ := spend_parts s
  unfold DSt.write
  split
  · split
    · refine ⟨by show s.spend.S.length = _; rw [p1], ?_, spend_left_ s⟩
      show (s.spend.ws ++ [_]).length ≤ _
      rw [p2, List.length_append]
      exact Nat.le_refl _
    · exact (Grows.refl s).mono (Nat.zero_le _)
  · exact (Grows.refl s).mono (Nat.zero_le _)
/-- What waits lies on the disk. -/
def DOk (s : DSt) : Prop := ∀ x ∈ s.ws, 64 * x.1 + x.2.length ≤ s.S.length
theorem DOk.img {s : DSt} (h : DOk s) : s.img.length = s.S.length := imgOf_length h
/-- A call keeps a disk sound, and lets at most n more writes wait. -/
def StepG (n : Nat) (f : DStep) : Prop := ∀ s, DOk s → DOk (f s).1 ∧ Grows n s (f s).1
theorem StepG.mono {m n : Nat} {f : DStep} (h : StepG m f) (hmn : m ≤ n) : StepG n f := fun s hs => ⟨(h s hs).1, (h s hs).2.mono hmn⟩
theorem sync_g : StepG 0 DSt.sync := by
  intro s hs
  unfold DSt.sync
  split
  · exact ⟨fun x hx => (by cases hx), hs.img, Nat.zero_le _, spend_left_ s⟩
  · exact ⟨hs, Grows.refl s⟩
theorem write_g (n : Int) (b : List UInt8) : StepG 1 (fun s => s.write n b) := by
  intro s hs
  refine ⟨?_, write_grows s n b⟩
  show DOk (s.write n b).1
  obtain ⟨p1, p2, _⟩ := spend_parts s
  unfold DSt.write
  split
  · rename_i h
    split
    · intro x hx
      have hx : x ∈ s.spend.ws ++ [(n.toNat, b)] := hx
      show _ ≤ s.spend.S.length
      rw [p1]
      rcases List.mem_append.1 hx with hx | hx
      · rw [p2] at hx; exact hs x hx
      · obtain rfl := List.mem_singleton.1 hx
        have ht := h.1
        unfold DSt.there at ht
        simp at ht
        show 64 * n.toNat + b.length ≤ _
        rw [h.2]
        omega
    · exact hs
  · exact hs
theorem layN_g (m : Nat) : ∀ (k : Nat) (b : List UInt8), StepG m (jLayN m k b) := by
  induction m with
  | zero => intro k b s hs; exact ⟨hs, Grows.refl s⟩
  | succ m ih =>
    intro k b s hs
    obtain ⟨h1, h2⟩ := write_g k (b.take 64) s hs
    rw [jLayN]
    split
    · obtain ⟨h3, h4⟩ := ih (k + 1) (b.drop 64) _ h1
      exact ⟨h3, (h2.trans h4).mono (by omega)⟩
    · exact ⟨h1, h2.mono (by omega)⟩
theorem lay_g (k : Nat) (b : List UInt8) : StepG (b.length / 64) (jLay k b) := layN_g _ _ _
theorem run_nil_g : StepG 0 (jRun []) := fun s hs => ⟨hs, Grows.refl s⟩
theorem run_cons_g {m n : Nat} {f : DStep} {l : List DStep} (h : StepG m f) (k : StepG n (jRun l)) : StepG (m + n) (jRun (f :: l)) := by
  intro s hs
  obtain ⟨h1, h2⟩ := h s hs
  rw [jRun]
  split
  · obtain ⟨h3, h4⟩ := k _ h1
    exact ⟨h3, h2.trans h4⟩
  · exact ⟨h1, h2.mono (by omega)⟩
theorem both_g {n : Nat} {l : List DStep} (k : Nat) (b : List UInt8) (h : StepG n (jRun l)) : StepG (b.length / 64 + n) (jRun (jLay k b :: DSt.sync :: l)) := (run_cons_g (lay_g k b) (run_cons_g sync_g h)).mono (by omega)
theorem steps_g (h : Nat) (b : List UInt8) : StepG (2 * (b.length / 64) + 2) (jRun (jSteps h b)) := by
  have h0 := jMark_len 0 (crcSum b)
  have h1 := jMark_len 1 (crcSum b)
  refine (both_g 1 b (both_g 0 (jMark 1 (crcSum b)) (both_g h b (both_g 0 (jMark 0 (crcSum b)) run_nil_g)))).mono ?_
  rw [h0, h1]
  omega
end Go.Proofs.Ytjmehamkpmimkaa
