/- The document's letters and words, walked. -/
import Derived.Test.YtpjpmlhnhcmacaaGreatDoorNmS
namespace Go.Proofs.YtpjpmlhnhcmacaaGreatDoor
open Go.RowKit

set_option maxHeartbeats 400000 in
set_option maxRecDepth 100000 in
theorem rLetter_any (c : UInt8) (w : World) : Calls Tryz.prog 36 #[.int .u8 c.toNat] w fun e w' => e = .returned (.bool (letB c)) ∧ w = w' := by
  have h256 := u8_lt c
  go_enter Tryz.func36, Tryz.ntmps36
  go_wp2
  all_goals
    go_ret
    refine ⟨ret_bool ?_, rfl⟩
    rw [Bool.eq_iff_iff]
    simp [letB, smallB, largeB]
    try omega
set_option maxHeartbeats 400000 in
set_option maxRecDepth 100000 in
theorem rDigit_any (c : UInt8) (w : World) : Calls Tryz.prog 38 #[.int .u8 c.toNat] w fun e w' => e = .returned (.bool (digB c)) ∧ w = w' := by
  have h256 := u8_lt c
  go_enter Tryz.func38, Tryz.ntmps38
  go_wp2
  all_goals
    go_ret
    refine ⟨ret_bool ?_, rfl⟩
    rw [Bool.eq_iff_iff]
    simp [digB]
    try omega
set_option maxHeartbeats 400000 in
set_option maxRecDepth 100000 in
theorem r6Small_any (c : UInt8) (w : World) : Calls Tryz.prog 64 #[.int .u8 c.toNat] w fun e w' => e = .returned (.bool (smallB c)) ∧ w = w' := by
  have h256 := u8_lt c
  go_enter Tryz.func64, Tryz.ntmps64
  go_wp2
  all_goals
    go_ret
    refine ⟨ret_bool ?_, rfl⟩
    rw [Bool.eq_iff_iff]
    simp [smallB]
    try omega
set_option maxHeartbeats 400000 in
set_option maxRecDepth 100000 in
theorem r6Letter_any (c : UInt8) (w : World) : Calls Tryz.prog 117 #[.int .u8 c.toNat] w fun e w' => e = .returned (.bool (letB c)) ∧ w = w' := by
  have h256 := u8_lt c
  have HL := Lib.hid (show letB c = (smallB c || largeB c) from rfl)
  go_enter Tryz.func117, Tryz.ntmps117
  go_wp2_with fail
  refine (r6Small_any c _).mono ?_
  rintro e w2 ⟨rfl, rfl⟩
  rcases hs : smallB c with _ | _
  · go_wp2_with fail
    all_goals
      go_ret
      refine ⟨ret_bool ?_, rfl⟩
      rw [HL.out, hs, Bool.eq_iff_iff]
      simp [largeB]
      try omega
  · go_wp2_with fail
    go_ret
    exact ⟨ret_bool (by rw [HL.out, hs]; rfl), rfl⟩

theorem wrdL_step {d : List UInt8} {k : Nat} {c : UInt8} (hk : k ≤ wrdL d) (hc : d[k]? = some c) (h : letB c = true ∨ 0 < k ∧ digB c = true) : k + 1 ≤ wrdL d := by
  have hw : wrdB c = true := by
    unfold wrdB
    rcases h with h | h
    · rw [h]; rfl
    · rw [h.2]; simp
  cases d with
  | nil => simp at hc
  | cons x r =>
    rcases hx : letB x with _ | _
    · exfalso
      have h0 : wrdL (x :: r) = 0 := by rw [wrdL, hx]; rfl
      have : k = 0 := by omega
      subst this
      simp at hc
      subst hc
      rw [hx] at h
      rcases h with h | h
      · cases h
      · omega
    · have h0 : wrdL (x :: r) = runL wrdB (x :: r) := by rw [wrdL, hx]; rfl
      rcases Nat.lt_or_eq_of_le hk with h1 | h1
      · exact h1
      · exfalso
        rw [h0] at h1
        have := runL_end wrdB (x :: r) c (by rw [← h1]; exact hc)
        rw [hw] at this
        cases this
theorem wrdL_stop {d : List UInt8} {k : Nat} {c : UInt8} (hk : k ≤ wrdL d) (hc : d[k]? = some c) (h : letB c = false) (h2 : k = 0 ∨ digB c = false) : wrdL d = k := by
  cases d with
  | nil => simp at hc
  | cons x r =>
    rcases Nat.lt_or_eq_of_le hk with h1 | h1
    · exfalso
      rcases hx : letB x with _ | _
      · have h0 : wrdL (x :: r) = 0 := by rw [wrdL, hx]; rfl
        omega
      · have h0 : wrdL (x :: r) = runL wrdB (x :: r) := by rw [wrdL, hx]; rfl
        rcases h2 with h2 | h2
        · subst h2
          simp at hc
          subst hc
          rw [hx] at h
          cases h
        · have := runL_all wrdB (x :: r) k c (by omega) hc
          unfold wrdB at this
          rw [h, h2] at this
          cases this
    · exact h1.symm

set_option maxHeartbeats 1600000 in
set_option maxRecDepth 100000 in
theorem rWord_any (l : List UInt8) (a : Nat) (hl : l.length ≤ 100000) (ha : a ≤ l.length) (w : World) : Calls Tryz.prog 37 #[.string (str l), .int .i64 a] w fun e w' => e = .returned (.int .i64 (a + wrdL (l.drop a) : Nat)) ∧ w = w' := by
  have hsz := str_size l
  have hwl := wrdL_le (l.drop a)
  rw [List.length_drop] at hwl
  obtain ⟨n, hn⟩ : ∃ n, n = wrdL (l.drop a) := ⟨_, rfl⟩
  rw [← hn] at hwl
  have HN := Lib.hid hn
  rw [← hn]
  clear hn
  go_enter Tryz.func37, Tryz.ntmps37
  go_wp2_with fail
  go_loopw [5] (fun v wr => ∃ k : Nat, v = .int .i64 (a + k : Nat) ∧ k ≤ n ∧ w = wr) (fun v _ => l.length - (intOf v).toNat)
  case atStart => exact ⟨0, rfl, Nat.zero_le _, rfl⟩
  case round =>
    obtain ⟨k, rfl, hk, rfl⟩ := hrel
    by_cases hlt : a + k < l.length
    · obtain ⟨c, hc⟩ : ∃ c, l[a + k]? = some c := ⟨_, List.getElem?_eq_getElem hlt⟩
      have hg := str_getE hc (by omega)
      have hd : (l.drop a)[k]? = some c := by rw [List.getElem?_drop]; exact hc
      have HD := Lib.hid hd
      clear hc hd
      go_wp2_with fail
      refine (rLetter_any c _).mono ?_
      rintro e w2 ⟨rfl, rfl⟩
      rcases hlet : letB c with _ | _
      · by_cases hk0 : k = 0
        · have HX := Lib.hid (show n = 0 by rw [HN.out]; exact (wrdL_stop (by rw [← HN.out]; exact hk) HD.out hlet (.inl hk0)).trans hk0)
          subst hk0
          clear hlet
          go_wp2_with fail
          go_ret
          exact ⟨ret_int (by rw [HX.out]; first | done | simp), rfl⟩
        · have hgt : decide (a < a + k) = true := by simp; omega
          have hgt2 : (0 : Nat) < k := by omega
          go_wp2_with fail
          refine (rDigit_any c _).mono ?_
          rintro e w3 ⟨rfl, rfl⟩
          rcases hdg : digB c with _ | _
          · have HX := Lib.hid (show n = k by rw [HN.out]; exact wrdL_stop (by rw [← HN.out]; exact hk) HD.out hlet (.inr hdg))
            go_wp2_with fail
            go_ret
            exact ⟨ret_int (by rw [HX.out] <;> simp), rfl⟩
          · have HX := Lib.hid (show k + 1 ≤ n by rw [HN.out]; exact wrdL_step (by rw [← HN.out]; exact hk) HD.out (.inr ⟨hgt2, hdg⟩))
            go_wp2_with fail
            refine ⟨⟨k + 1, ?_, HX.out, trivial⟩, ?_⟩
            · simp <;> omega
            · simp [intOf]
              omega
      · have HX := Lib.hid (show k + 1 ≤ n by rw [HN.out]; exact wrdL_step (by rw [← HN.out]; exact hk) HD.out (.inl hlet))
        go_wp2_with fail
        refine ⟨⟨k + 1, ?_, HX.out, trivial⟩, ?_⟩
        · simp <;> omega
        · simp [intOf]
          omega
    · have HX := Lib.hid (show n = k by omega)
      go_wp2_with fail
      go_ret
      exact ⟨ret_int (by rw [HX.out] <;> simp), rfl⟩
end Go.Proofs.YtpjpmlhnhcmacaaGreatDoor
