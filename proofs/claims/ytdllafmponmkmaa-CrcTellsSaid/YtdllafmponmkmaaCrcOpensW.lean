/- The walk of the law CrcOpens: it answers true, and turns nothing of old. -/
import Derived.Test.YtdllafmponmkmaaCrcO
namespace Go.Proofs.Ytdllafmponmkmaa
open Go.RowKit

/-- What Open answers. -/
def openM (l : List UInt8) : List UInt8 × Int :=
  if l.length < 4 then ([], 10) else if sealed (l.take (l.length - 4)) = l then (l.take (l.length - 4), 0) else ([], 12)

theorem openM_len (l : List UInt8) : (openM l).1.length ≤ l.length := by
  unfold openM
  split
  · simp
  · split
    · rw [List.length_take]; omega
    · simp
theorem openM_sealed (l : List UInt8) : openM (sealed l) = (l, 0) := by
  have h : (sealed l).length = l.length + 4 := by simp [sealed, sumOctets]
  have ht : (sealed l).take ((sealed l).length - 4) = l := by rw [h]; simp [sealed]
  unfold openM
  rw [if_neg (by omega), ht, if_pos rfl]

theorem isSl_nil (w : World) : IsSl 0 (([] : List UInt8).map bv) (.slice none 0 0) w := ⟨none, 0, rfl, Nat.le_refl _, by simp [maxLen], rfl, Rd.nil _ _ _⟩

theorem open_any (A : Option Addr) (n c : Nat) (l : List UInt8) (w : World) (hn : l.length = n) (hnc : n ≤ c) (hbig : n ≤ 1000000000) (hr : Rd All w A (l.map bv)) :
    Calls Try.prog 32 #[.slice A n c] w fun e w' => ∃ x, e = .returned (.tuple #[x, .int .i64 (openM l).2]) ∧ IsSl (openM l).1.length ((openM l).1.map bv) x w' ∧ Mod Nil w w' := by
  by_cases h4 : n < 4
  · refine (open_short A n c w h4).mono ?_
    rintro e w' ⟨rfl, rfl⟩
    have : openM l = ([], 10) := by unfold openM; rw [if_pos (by omega)]
    rw [this]
    exact ⟨_, rfl, isSl_nil _, Mod.refl _ _⟩
  · refine (open_long All A n c l w hn (by omega) hnc hbig hr).mono ?_
    rintro e w' ⟨h, hm⟩
    by_cases hs : sealed (l.take (n - 4)) = l
    · rw [if_pos hs] at h
      obtain ⟨v, rfl, hown⟩ := h
      have : openM l = (l.take (n - 4), 0) := by unfold openM; rw [hn, if_neg h4, if_pos hs]
      rw [this]
      refine ⟨v, rfl, ?_, hm⟩
      have := IsSl.of_own hown
      rw [show (l.take (n - 4)).length = n - 4 by rw [List.length_take]; omega]
      exact this
    · rw [if_neg hs] at h
      subst h
      have : openM l = ([], 12) := by unfold openM; rw [hn, if_neg h4, if_neg hs]
      rw [this]
      exact ⟨_, rfl, isSl_nil _, hm⟩

theorem refOpen_any' (s : ByteArray) (w : World) (hs : s.size ≤ 1000000000) :
    Calls Try.prog 33 #[.string s] w fun e w' => e = .returned (.tuple #[.string (str (openM s.data.toList).1), .int .i64 (openM s.data.toList).2]) ∧ Mod Nil w w' := by
  refine (refOpen_any s w hs).mono ?_
  rintro e w' ⟨rfl, hm⟩
  refine ⟨?_, hm⟩
  have hl : s.data.toList.length = s.size := Array.length_toList
  unfold openM
  rw [hl]
  split
  · rfl
  · split <;> rfl

set_option maxHeartbeats 1600000 in
set_option maxRecDepth 100000 in
theorem crcOpens_walk (A : Option Addr) (n c : Nat) (l : List UInt8) (w : World) (hl : l.length = n) (hnc : n ≤ c) (hrl : Rd All w A (l.map bv)) :
    Calls Try.prog 5 #[.slice A n c] w fun e w' => e = .returned (.bool true) ∧ Mod Nil w w' := by
  have HL := Lib.hid hl
  have HRL := Lib.hid hrl
  clear hl hrl
  by_cases h1 : 500 < n
  · go_enter Try.func5, Try.ntmps5
    go_wp2_with fail
    refine (awake2_any _).mono ?_
    rintro e w1 ⟨rfl, hm1⟩
    have HM1 := Lib.hid hm1
    clear hm1
    go_wp2_with fail
    refine (awake2_any _).mono ?_
    rintro e w2 ⟨rfl, hm2⟩
    have HM2 := Lib.hid hm2
    clear hm2
    go_wp2_with fail
    go_ret
    exact ⟨rfl, HM1.out.trans HM2.out⟩
  obtain ⟨s, hs⟩ : ∃ s, s = str l := ⟨_, rfl⟩
  have hsz : s.size = n := by rw [hs, str_size, HL.out]
  have hsl : s.data.toList = l := by rw [hs]; rfl
  have HS := Lib.hid hs
  have HSZ := Lib.hid hsz
  have HSL := Lib.hid hsl
  clear hs hsz hsl
  go_enter Try.func5, Try.ntmps5
  go_wp2_with fail
  refine (awake2_any _).mono ?_
  rintro e w1 ⟨rfl, hm1⟩
  have ka := conv_bytes (HRL.out.keep0 hm1) HL.out c
  rw [← HS.out] at ka
  have HM1 := Lib.hid hm1
  clear hm1
  go_wp2_with fail
  refine (open_any A n c l _ HL.out hnc (by omega) (HRL.out.keep0 HM1.out)).mono ?_
  rintro e w2 ⟨x, rfl, hx, hm2⟩
  have HX := Lib.hid hx
  have HM2 := Lib.hid (HM1.out.trans hm2)
  clear hx hm2 ka
  obtain ⟨o, ho⟩ : ∃ o, o = openM l := ⟨_, rfl⟩
  rw [← ho] at HX ⊢
  have HO := Lib.hid ho
  have hol := openM_len l
  rw [← ho, HL.out] at hol
  clear ho
  go_wp2_with fail
  refine (refOpen_any' s _ (by rw [HSZ.out]; omega)).mono ?_
  rintro e w3 ⟨rfl, hm3⟩
  rw [HSL.out, ← HO.out]
  have HM3 := Lib.hid (HM2.out.trans hm3)
  have HX3 := Lib.hid (HX.out.keep0 hm3)
  clear hm3
  go_wp2_with fail
  refine (seal_any All A n c l _ HL.out (by omega) (HRL.out.keep0 HM3.out)).mono ?_
  rintro e w4 ⟨v4, rfl, hown4, hm4⟩
  have HM4 := Lib.hid (HM3.out.trans hm4)
  have HX4 := Lib.hid (HX3.out.keep0 hm4)
  obtain ⟨A4, c4, rfl, hc4, _, hl4, hr4⟩ := IsSl.of_own hown4
  rw [List.length_map] at hl4
  have HL4 := Lib.hid hl4
  have HR4 := Lib.hid hr4
  clear hm4 hown4 hl4 hr4
  go_wp2_with fail
  refine (open_any A4 (n + 4) c4 (sealed l) _ HL4.out hc4 (by omega) HR4.out).mono ?_
  rintro e w5 ⟨y, rfl, hy, hm5⟩
  rw [openM_sealed] at hy ⊢
  have HM5 := Lib.hid (HM4.out.trans hm5)
  obtain ⟨AX, cX, rfl, _, _, hlX, hrX⟩ := HX4.out.keep0 hm5
  obtain ⟨AY, cY, rfl, _, _, hlY, hrY⟩ := hy
  have k1 := conv_bytes hrX rfl cX
  have k2 := conv_bytes hrY rfl cY
  have k3 := conv_bytes (HRL.out.keep0 HM5.out) HL.out c
  rw [← HS.out] at k2 k3
  clear hm5 hlX hrX hlY hrY
  go_wp2_with fail
  go_ret
  exact ⟨rfl, HM5.out⟩

end Go.Proofs.Ytdllafmponmkmaa
