/- What the acts of the law JournalActs let wait. -/
import Derived.Test.YtjmehamkpmimkaaRjnV
import Derived.Test.YtjmehamkpmimkaaAct4
import Derived.Test.YtjmehamkpmimkaaJrnCrW
import Derived.Test.YtjmehamkpmimkaaRdkC
namespace Go.Proofs.Ytjmehamkpmimkaa
open Go.RowKit

theorem spend_S (s : DSt) : s.spend.S = s.S := by unfold DSt.spend; split <;> rfl

/-- Both disks, with one state. -/
def Both (w0 : World) (g g' : Nat) (F F' : Nat → Prop) (s : DSt) (wr : World) : Prop :=
  DskAt w0.heap.size wr g F s ∧ RdkAt w0.heap.size wr g' F' s ∧ (∀ k, F k → ¬ F' k) ∧ Mod Nil w0 wr

theorem Both.disk {w0 wr w1 : World} {g g' : Nat} {F F' F1 : Nat → Prop} {s s1 : DSt} (h : Both w0 g g' F F' s wr) (hd : DskAt w0.heap.size w1 g F1 s1) (hm : Mod F wr w1) (hF : ∀ k, F1 k → F k ∨ wr.heap.size ≤ k) :
    RdkAt w0.heap.size w1 g' F' s ∧ (∀ k, F1 k → ¬ F' k) ∧ Mod Nil w0 w1 :=
  ⟨h.2.1.keep hm (fun k hk hkF => h.2.2.1 k hkF hk), fun k hk hk' => (hF k hk).elim (fun h' => h.2.2.1 k h' hk') (fun h' => by have := (h.2.1.lt k hk').2; omega), h.2.2.2.disk h.1 hm (Nat.le_refl _)⟩

theorem both_ref {w0 w1 w2 : World} {g g' : Nat} {F1 F' F2 : Nat → Prop} {s s2 : DSt} (hd : DskAt w0.heap.size w1 g F1 s2) (hr : RdkAt w0.heap.size w1 g' F' s) (hFF : ∀ k, F1 k → ¬ F' k) (hm0 : Mod Nil w0 w1) (hd2 : RdkAt w0.heap.size w2 g' F2 s2) (hm : Mod F' w1 w2) (hF : ∀ k, F2 k → F' k ∨ w1.heap.size ≤ k) :
    Both w0 g g' F1 F2 s2 w2 :=
  ⟨hd.keep hm (fun k hk => hFF k hk), hd2, fun k hk hk' => (hF k hk').elim (fun h' => hFF k hk h') (fun h' => by have := (hd.lt k hk).2; omega), hm0.trans' hm (fun _ _ h => h) (fun k hk hF => absurd hk (by have := (hr.lt k hF).1; omega))⟩

theorem Both.keep0 {w0 wr w1 : World} {g g' : Nat} {F F' : Nat → Prop} {s : DSt} (h : Both w0 g g' F F' s wr) (hm : Mod Nil wr w1) : Both w0 g g' F F' s w1 :=
  ⟨h.1.keep0 hm, h.2.1.keep0 hm, h.2.2.1, h.2.2.2.trans hm⟩

theorem DskAt.szd {B g : Nat} {F : Nat → Prop} {s : DSt} {w : World} (h : DskAt B w g F s) : Szd s := h.sized

theorem put_few (t : List UInt8) (s : DSt) (hs : DOk s) (ha : jA s.secs ≤ 7) : DOk (jPut t s).1 ∧ Grows 100 s (jPut t s).1 := by
  unfold jPut
  split
  · rename_i hf
    have hb : (jArea (jA s.secs) t).length = 64 * jA s.secs := jArea_len (jfits_room hf)
    obtain ⟨h1, h2⟩ := steps_g s.home (jArea (jA s.secs) t) s hs
    exact ⟨h1, h2.mono (by rw [hb]; omega)⟩
  · exact ⟨hs, (Grows.refl s).mono (Nat.zero_le _)⟩
theorem format_few (t : List UInt8) (s : DSt) (hs : DOk s) (ha : jA s.secs ≤ 7) : DOk (jFormat t s).1 ∧ Grows 100 s (jFormat t s).1 := by
  unfold jFormat
  split
  · rename_i hf
    have hb : (jArea (jA s.secs) t).length = 64 * jA s.secs := jArea_len (jfits_room hf)
    have h0 := jMark_len 0 0
    obtain ⟨h1, h2⟩ := both_g s.home (jArea (jA s.secs) t) (both_g 0 (jMark 0 0) run_nil_g) s hs
    exact ⟨h1, h2.mono (by rw [hb, h0]; omega)⟩
  · exact ⟨hs, (Grows.refl s).mono (Nat.zero_le _)⟩
theorem recover_few (s : DSt) (hs : DOk s) (ha : jA s.secs ≤ 7) : DOk (jRecover s).1 ∧ Grows 100 s (jRecover s).1 := by
  have hn : ∀ I : List UInt8, (jnOf (jA s.secs) I).length / 64 ≤ 7 := fun I => by
    have : (jnOf (jA s.secs) I).length ≤ 64 * jA s.secs := by rw [jnOf, List.length_take]; omega
    omega
  unfold jRecover
  split
  · exact ⟨hs, (Grows.refl s).mono (Nat.zero_le _)⟩
  · split
    · have h0 := jMark_len 0 (crcSum (jnOf (jA s.secs) s.img))
      obtain ⟨h1, h2⟩ := run_cons_g sync_g (both_g s.home (jnOf (jA s.secs) s.img) (both_g 0 (jMark 0 (crcSum (jnOf (jA s.secs) s.img))) run_nil_g)) s hs
      exact ⟨h1, h2.mono (by rw [h0]; have := hn s.img; omega)⟩
    · split
      · exact ⟨hs, (Grows.refl s).mono (Nat.zero_le _)⟩
      · have h0 := jMark_len 0 0
        obtain ⟨h1, h2⟩ := both_g 0 (jMark 0 0) run_nil_g s hs
        exact ⟨h1, h2.mono (by rw [h0]; omega)⟩

/-- What n sectors, and what waits, mean. -/
def Fewer (N i : Nat) (s : DSt) : Prop := s.S.length = 64 * N ∧ s.ws.length ≤ 100 * i ∧ s.left ≤ 9223372036854775807
theorem Fewer.grow {N i : Nat} {s s' : DSt} (h : Fewer N i s) (hg : Grows 100 s s') : Fewer N (i + 1) s' :=
  ⟨hg.1.trans h.1, by have := hg.2.1; have := h.2.1; omega, Int.le_trans hg.2.2 h.2.2⟩
theorem Fewer.next {N i : Nat} {s : DSt} (h : Fewer N i s) : Fewer N (i + 1) s := ⟨h.1, by have := h.2.1; omega, h.2.2⟩
theorem Fewer.area {N i : Nat} {s : DSt} (h : Fewer N i s) (hN : N ≤ 16) : jA s.secs ≤ 7 := by
  have h1 : s.secs = N := by unfold DSt.secs; rw [h.1]; omega
  rw [h1]; unfold jA; omega

theorem octets_few {a : Act3} (h : a.b.length ≤ 600) : a.octets.length ≤ 600 := by
  unfold Act3.octets
  split
  · simp
  · exact h

/-- Where the law JournalActs stands behind i acts. -/
def ActsStand4 (w0 : World) (g g' N i : Nat) (wr : World) : Prop := ∃ F F' s, Both w0 g g' F F' s wr ∧ Fewer N i s
end Go.Proofs.Ytjmehamkpmimkaa
