/- Contracts of journal's small calls: areas, Room, room, homes, fits. -/
import Derived.Test.YtjmehamkpmimkaaJrnS
namespace Go.Proofs.Ytjmehamkpmimkaa
open Go.RowKit

theorem areas_ex (x : Int) (w : World) :
    Calls Try.prog 43 #[.int .i64 x] w fun r w' => (∃ v, r = .returned (.int .i64 v)) ∧ w = w' := by
  go_enter Try.func43, Try.ntmps43
  go_wp2_with fail
  go_ret
  exact ⟨⟨_, rfl⟩, rfl⟩

theorem areas_any (M : Nat) (w : World) (h1 : 1 ≤ M) (h2 : M ≤ 65536) :
    Calls Try.prog 43 #[.int .i64 (M : Int)] w fun r w' => r = .returned (.int .i64 (jA M : Nat)) ∧ w = w' := by
  have ht : Int.tdiv ((M : Int) - 2) 2 = ((jA M : Nat) : Int) := by
    unfold jA
    rcases Nat.lt_or_ge M 2 with h | h
    · obtain rfl : M = 1 := by omega
      rfl
    · rw [Int.tdiv_eq_ediv_of_nonneg (by omega)]
      omega
  have hj : jA M ≤ 32767 := by unfold jA; omega
  go_enter Try.func43, Try.ntmps43
  go_wp2_with fail
  go_ret
  exact ⟨by first | rfl | exact ret_int (by unfold wrap64; omega), rfl⟩

theorem Room_any (x : Int) (w : World) :
    Calls Try.prog 10 #[.int .i64 x] w fun r w' => r = .returned (.int .i64 (jRoom x)) ∧ w = w' := by
  by_cases h1 : x < 1
  · have HR := Lib.hid (show jRoom x = -1 by unfold jRoom; rw [if_pos (.inl h1)])
    go_enter Try.func10, Try.ntmps10
    go_wp2_with fail
    refine (areas_ex x _).mono ?_
    rintro r w1 ⟨⟨v, rfl⟩, rfl⟩
    go_wp2_with fail
    go_ret
    exact ⟨ret_int HR.out.symm, rfl⟩
  by_cases h2 : 65536 < x
  · have HR := Lib.hid (show jRoom x = -1 by unfold jRoom; rw [if_pos (.inr h2)])
    go_enter Try.func10, Try.ntmps10
    go_wp2_with fail
    refine (areas_ex x _).mono ?_
    rintro r w1 ⟨⟨v, rfl⟩, rfl⟩
    go_wp2_with fail
    go_ret
    exact ⟨ret_int HR.out.symm, rfl⟩
  obtain ⟨M, rfl⟩ := Int.eq_ofNat_of_zero_le (show 0 ≤ x by omega)
  have hM1 : 1 ≤ M := by omega
  have hM2 : M ≤ 65536 := by omega
  have hj : jA M ≤ 32767 := by unfold jA; omega
  by_cases h4 : M < 4
  · have HR := Lib.hid (show jRoom M = -1 by unfold jRoom; rw [if_neg (by omega), if_pos (by omega)])
    have hj0 : jA M = 0 := by unfold jA; omega
    go_enter Try.func10, Try.ntmps10
    go_wp2_with fail
    refine (areas_any M _ hM1 hM2).mono ?_
    rintro r w1 ⟨rfl, rfl⟩
    rw [hj0]
    clear hj0
    go_wp2_with fail
    go_ret
    exact ⟨ret_int HR.out.symm, rfl⟩
  · have HR := Lib.hid (show jRoom M = (jA M : Nat) * 64 - 12 by unfold jRoom jA; rw [if_neg (by omega), if_neg (by omega)]; omega)
    have hj0 : 1 ≤ jA M := by unfold jA; omega
    obtain ⟨a, ha⟩ : ∃ a, a = jA M := ⟨_, rfl⟩
    rw [← ha] at HR hj hj0
    go_enter Try.func10, Try.ntmps10
    go_wp2_with fail
    refine (areas_any M _ hM1 hM2).mono ?_
    rintro r w1 ⟨rfl, rfl⟩
    rw [← ha]
    clear ha
    go_wp2_with fail
    go_ret
    exact ⟨ret_int HR.out.symm, rfl⟩

theorem room_nil (w : World) : Calls Try.prog 54 #[.pointer none] w fun r w' => r = .returned (.int .i64 (-1)) ∧ w = w' := by
  go_enter Try.func54, Try.ntmps54
  go_wp2_with fail
  go_ret
  exact ⟨rfl, rfl⟩
theorem room_any (B g : Nat) (F : Nat → Prop) (s : DSt) (w : World) (h : DskAt B w g F s) :
    Calls Try.prog 54 #[.pointer (some ⟨g, 0, none⟩)] w fun r w' => r = .returned (.int .i64 (jRoom s.secs)) ∧ w = w' := by
  have HC := Lib.hid (dskSize_any B g F s w h)
  clear h
  go_enter Try.func54, Try.ntmps54
  go_wp2_with fail
  refine HC.out.mono ?_
  rintro r w1 ⟨rfl, rfl⟩
  go_wp2_with fail
  refine (Room_any _ _).mono ?_
  rintro r w1 ⟨rfl, rfl⟩
  go_wp2_with fail
  go_ret
  exact ⟨rfl, rfl⟩

theorem DskAt.sized {B g : Nat} {F : Nat → Prop} {s : DSt} {w : World} (h : DskAt B w g F s) : 1 ≤ s.secs ∧ s.secs ≤ 65536 ∧ s.S.length = 64 * s.secs ∧ DOk s := by
  obtain ⟨vs, vw, wts, _, h⟩ := h
  have h1 := h.pos
  have h2 := h.big
  have h3 := h.mod
  unfold DSt.secs
  exact ⟨by omega, by omega, by omega, h.fits⟩

theorem homes_any (B g : Nat) (F : Nat → Prop) (s : DSt) (w : World) (h : DskAt B w g F s) :
    Calls Try.prog 53 #[.pointer (some ⟨g, 0, none⟩)] w fun r w' => r = .returned (.int .i64 (s.home : Nat)) ∧ w = w' := by
  have HC := Lib.hid (dskSize_any B g F s w h)
  obtain ⟨h1, h2, _, _⟩ := h.sized
  have HA := Lib.hid (areas_any s.secs w h1 h2)
  have hj : jA s.secs ≤ 32767 := by unfold jA; omega
  have HH := Lib.hid (show ((s.home : Nat) : Int) = 1 + (jA s.secs : Nat) by unfold DSt.home; omega)
  clear h
  go_enter Try.func53, Try.ntmps53
  go_wp2_with fail
  refine HC.out.mono ?_
  rintro r w1 ⟨rfl, rfl⟩
  go_wp2_with fail
  refine HA.out.mono ?_
  rintro r w1 ⟨rfl, rfl⟩
  go_wp2_with fail
  go_ret
  exact ⟨ret_int HH.out.symm, rfl⟩

theorem fits_nil (A : Option Addr) (n c : Nat) (w : World) : Calls Try.prog 46 #[.pointer none, .slice A n c] w fun r w' => r = .returned (.int .i64 2) ∧ w = w' := by
  go_enter Try.func46, Try.ntmps46
  go_wp2_with fail
  refine (room_nil _).mono ?_
  rintro r w1 ⟨rfl, rfl⟩
  go_wp2_with fail
  go_ret
  exact ⟨rfl, rfl⟩
theorem fits_any (B g : Nat) (F : Nat → Prop) (s : DSt) (A : Option Addr) (n c : Nat) (t : List UInt8) (w : World) (h : DskAt B w g F s) (ht : t.length = n) :
    Calls Try.prog 46 #[.pointer (some ⟨g, 0, none⟩), .slice A n c] w fun r w' => r = .returned (.int .i64 (jFits s t)) ∧ w = w' := by
  have HC := Lib.hid (room_any B g F s w h)
  clear h
  obtain ⟨R, hR⟩ : ∃ R, R = jRoom s.secs := ⟨_, rfl⟩
  rw [← hR] at HC
  by_cases h1 : R < 0
  · have HE := Lib.hid (show jFits s t = 2 by unfold jFits; rw [← hR, if_pos h1])
    clear hR
    go_enter Try.func46, Try.ntmps46
    go_wp2_with fail
    refine HC.out.mono ?_
    rintro r w1 ⟨rfl, rfl⟩
    go_wp2_with fail
    go_ret
    exact ⟨ret_int HE.out.symm, rfl⟩
  · by_cases h2 : R < (n : Int)
    · have HE := Lib.hid (show jFits s t = 21 by unfold jFits; rw [← hR, if_neg h1, ht, if_pos h2])
      clear hR ht
      go_enter Try.func46, Try.ntmps46
      go_wp2_with fail
      refine HC.out.mono ?_
      rintro r w1 ⟨rfl, rfl⟩
      go_wp2_with fail
      go_ret
      exact ⟨ret_int HE.out.symm, rfl⟩
    · have HE := Lib.hid (show jFits s t = 0 by unfold jFits; rw [← hR, if_neg h1, ht, if_neg h2])
      clear hR ht
      go_enter Try.func46, Try.ntmps46
      go_wp2_with fail
      refine HC.out.mono ?_
      rintro r w1 ⟨rfl, rfl⟩
      go_wp2_with fail
      go_ret
      exact ⟨ret_int HE.out.symm, rfl⟩

end Go.Proofs.Ytjmehamkpmimkaa
