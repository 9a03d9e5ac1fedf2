/- Plain law of the journal, part two: a Put, a Recover, and the crash behind each. -/
import Derived.Test.YtjmehamkpmimkaaJrnP
namespace Go.Proofs.Ytjmehamkpmimkaa
open Go.RowKit

/-- Behind a crash: nothing waits, the power is on, the old area or the new one is there. -/
structure Sound (a N : Nat) (X An : List UInt8) (s : DSt) : Prop where
  ws : s.ws = []
  len : s.S.length = N
  left : s.left = -1
  inv : Inv a X An s.S

theorem crash_none_waits {s : DSt} (h : s.ws = []) (keep : List Bool) (torn octets : Int) : s.crash keep torn octets = ⟨s.S, [], -1⟩ := by
  unfold DSt.crash
  rw [h]
  rfl
theorem Failed.crash {a N : Nat} {Ao An : List UInt8} {r : DSt × Int} (h : Failed a N Ao An r) (keep : List Bool) (torn octets : Int) : Sound a N Ao An (r.1.crash keep torn octets) := by
  obtain ⟨_, k, m, T, hT, hN, hh, hI⟩ := h
  have ho := crash_half hh (by omega) keep torn octets
  exact ⟨rfl, ho.1.trans hT, rfl, hI _ ho⟩
theorem Stood.crash {a N : Nat} {A X An : List UInt8} {r : DSt × Int} (h : Stood a N A r) (hA : A = X ∨ A = An) (keep : List Bool) (torn octets : Int) : Sound a N X An (r.1.crash keep torn octets) := by
  obtain ⟨_, hw, hl, hh, hx⟩ := h
  rw [crash_none_waits hw]
  refine ⟨rfl, hl, rfl, .inr ⟨?_, .inr hx⟩⟩
  rcases hA with rfl | rfl
  · exact .inl hh
  · exact .inr hh

/-- The power is set. -/
def DSt.power (s : DSt) (n : Int) : DSt := { s with left := max n (-1) }
theorem power_secs (s : DSt) (n : Int) : (s.power n).secs = s.secs := rfl

theorem put_eq {a : Nat} {s : DSt} {t : List UInt8} (hj : a = jA s.secs) (hf : jFits s t = 0) : jPut t s = jRun (jSteps (1 + a) (jArea a t)) s := by
  unfold jPut
  rw [if_pos hf, show s.home = 1 + a by unfold DSt.home; rw [← hj], ← hj]
theorem fits_ok {a : Nat} {s : DSt} {t : List UInt8} (hj : a = jA s.secs) (h4 : 4 ≤ s.secs) (h6 : s.secs ≤ 65536) (ht : t.length + 12 ≤ 64 * a) : jFits s t = 0 := by
  have hr := jRoom_of h4 h6
  rw [← hj] at hr
  unfold jFits
  rw [hr, if_neg (by omega), if_neg (by omega)]
theorem fits_full {a : Nat} {s : DSt} {t : List UInt8} (hj : a = jA s.secs) (h4 : 4 ≤ s.secs) (h6 : s.secs ≤ 65536) (ht : 64 * a < t.length + 12) : jFits s t = 21 := by
  have hr := jRoom_of h4 h6
  rw [← hj] at hr
  have ha : 1 ≤ a := by rw [hj]; unfold jA; omega
  unfold jFits
  rw [hr, if_neg (by omega), if_pos (by omega)]

section
variable {a N : Nat} {s : DSt}
/-- What is asked of a disk: its area has a sectors. -/
structure Sized (a N : Nat) (s : DSt) : Prop where
  len : s.S.length = N
  fit : 64 * (1 + 2 * a) ≤ N
  pos : 1 ≤ a
  area : a = jA s.secs
  four : 4 ≤ s.secs
  most : s.secs ≤ 65536
theorem Sized.to {s s' : DSt} (h : Sized a N s) (hl : s'.S.length = N) : Sized a N s' := by
  have e : s'.secs = s.secs := by unfold DSt.secs; rw [hl, h.len]
  exact ⟨hl, h.fit, h.pos, e ▸ h.area, e ▸ h.four, e ▸ h.most⟩
theorem Sized.room (h : Sized a N s) : 0 ≤ jRoom s.secs := by rw [jRoom_of h.four h.most]; omega

theorem format_stood {t : List UInt8} (hz : Sized a N s) (ht : t.length + 12 ≤ 64 * a) (hws : s.ws = []) (hl : s.left = -1) : Stood a N (jArea a t) (jFormat t s) ∧ (jFormat t s).1.left = -1 := by
  have hA : (jArea a t).length = 64 * a := jArea_len (by omega)
  have hf := hz.fit
  have hp := hz.pos
  have hn := hz.len
  unfold jFormat
  rw [if_pos (fits_ok hz.area hz.four hz.most ht), show s.home = 1 + a by unfold DSt.home; rw [← hz.area], ← hz.area]
  rcases phase (m := a) [jLay 0 (jMark 0 0), DSt.sync] hws hA (show 64 * (1 + a + a) ≤ s.S.length by omega) with ⟨s1, e1, S1, w1, l1⟩ | ⟨_, _, f3⟩
  rotate_left
  · exact absurd hl f3
  have o1 : Out (1 + a) a s.S s1.S := S1 ▸ lay_out (1 + a) a hA (by omega)
  have hS1 : s1.S.length = N := o1.1.trans hn
  have h1 : hmOf a s1.S = jArea a t := S1 ▸ hm_lay hA (by omega)
  rw [e1]
  rcases phase (m := 1) [] w1 (jMark_len 0 0) (show 64 * (0 + 1) ≤ s1.S.length by omega) with ⟨s4, e4, S4, w4, l4⟩ | ⟨_, _, f3⟩
  rotate_left
  · exact absurd (l1 hl) f3
  have o4 : Out 0 1 s1.S s4.S := S4 ▸ lay_out 0 1 (jMark_len 0 0) (by omega)
  rw [e4]
  exact ⟨⟨rfl, w4, o4.1.trans hS1, (hm_out o4 (by omega)).trans h1, 0, by omega, S4 ▸ hd_lay (jMark_len 0 0) (by omega)⟩, l4 (l1 hl)⟩

theorem put_safe {t Ao : List UInt8} (hz : Sized a N s) (ht : t.length + 12 ≤ 64 * a) (hws : s.ws = []) (hAo : hmOf a s.S = Ao) (hx : ∃ x, x < 4294967296 ∧ sector s.S 0 = jMark 0 x) :
    Stood a N (jArea a t) (jPut t s) ∨ (Failed a N Ao (jArea a t) (jPut t s) ∧ s.left ≠ -1) := by
  rw [put_eq hz.area (fits_ok hz.area hz.four hz.most ht)]
  exact steps_safe hz.len hz.fit hz.pos hws (jArea_len (by omega)) hAo hx

/-- A Put and the crash behind it: sound; the new text, if it was OK. -/
theorem put_crash {t Ao : List UInt8} (hz : Sized a N s) (ht : t.length + 12 ≤ 64 * a) (hws : s.ws = []) (hAo : hmOf a s.S = Ao) (hx : ∃ x, x < 4294967296 ∧ sector s.S 0 = jMark 0 x) (keep : List Bool) (torn octets : Int) :
    ∃ X, (X = Ao ∨ X = jArea a t) ∧ ((jPut t s).2 = 0 → X = jArea a t) ∧ Sound a N X (jArea a t) ((jPut t s).1.crash keep torn octets) := by
  rcases put_safe hz ht hws hAo hx with h | ⟨h, _⟩
  · exact ⟨_, .inr rfl, fun _ => rfl, h.crash (.inl rfl) _ _ _⟩
  · exact ⟨_, .inl rfl, fun h0 => (by rw [h.1] at h0; cases h0), h.crash _ _ _⟩

theorem recover_power {X An : List UInt8} (hz : Sized a N s) (hAn : An.length = 64 * a) (hs : Sound a N X An s) (p : Int) :
    (Stood a N X (jRecover (s.power p)) ∨ Stood a N An (jRecover (s.power p))) ∨ Failed a N X An (jRecover (s.power p)) := by
  have hz' : Sized a N (s.power p) := hz.to hs.len
  rcases recover_safe (s := s.power p) hs.len hz.fit hz.pos hz'.area hz'.room hs.ws hAn hs.inv with h | h
  · exact .inl h
  · exact .inr h.1
/-- A Recover, whatever the power, and the crash behind it. -/
theorem recover_crash {X An : List UInt8} (hz : Sized a N s) (hAn : An.length = 64 * a) (hs : Sound a N X An s) (p : Int) (keep : List Bool) (torn octets : Int) : Sound a N X An ((jRecover (s.power p)).1.crash keep torn octets) := by
  rcases recover_power hz hAn hs p with (h | h) | h
  · exact h.crash (.inl rfl) _ _ _
  · exact h.crash (.inr rfl) _ _ _
  · exact h.crash _ _ _
/-- A Recover behind a crash is OK. -/
theorem recover_ok {X An : List UInt8} (hz : Sized a N s) (hAn : An.length = 64 * a) (hs : Sound a N X An s) : Stood a N X (jRecover s) ∨ Stood a N An (jRecover s) := by
  rcases recover_safe hs.len hz.fit hz.pos hz.area hz.room hs.ws hAn hs.inv with h | h
  · exact h
  · exact absurd hs.left h.2
theorem Stood.get {t : List UInt8} {r : DSt × Int} (hz : Sized a N s) (ht : t.length + 12 ≤ 64 * a) (h : Stood a N (jArea a t) r) : jGet r.1 = (t, 0) := by
  have hz' := hz.to h.2.2.1
  exact get_area hz'.area hz'.four hz'.most h.2.1 ht h.2.2.2.1
end
end Go.Proofs.Ytjmehamkpmimkaa
