/- Contracts of the reference of crc. -/
import Derived.Test.YtjmehamkpmimkaaCrcW
import Derived.Lib.ConvBytes
namespace Go.Proofs.Ytjmehamkpmimkaa
open Go.RowKit

theorem xor_div2 (a b : Nat) : (a ^^^ b) / 2 = a / 2 ^^^ b / 2 := by
  have h := Nat.shiftRight_xor_distrib (a := a) (b := b) (i := 1)
  simpa [Nat.shiftRight_eq_div_pow] using h
theorem xor_mod2 (a b : Nat) : (a ^^^ b) % 2 = (a + b) % 2 := by
  have h : (a ^^^ b) % 2 ^ 1 = a % 2 ^ 1 ^^^ b % 2 ^ 1 := Nat.xor_mod_two_pow
  simp only [Nat.pow_one] at h
  rw [h, Nat.add_mod]
  rcases Nat.mod_two_eq_zero_or_one a with ha | ha <;> rcases Nat.mod_two_eq_zero_or_one b with hb | hb <;> rw [ha, hb] <;> rfl
theorem crcBit_xor (a b : Nat) : crcBit (a ^^^ b) = (if (b + a) % 2 = 1 then a / 2 ^^^ 3988292384 else a / 2) ^^^ (b / 2) := by
  unfold crcBit
  rw [xor_mod2, xor_div2, Nat.add_comm]
  split
  · rw [Nat.xor_assoc, Nat.xor_assoc, Nat.xor_comm (b / 2)]
  · rfl

set_option maxHeartbeats 1600000 in
theorem refSum_any (s : ByteArray) (w : World) (hs : s.size ≤ maxLen) :
    Calls Try.prog 63 #[.string s] w fun e w' => e = .returned (.int .u32 (crcSum s.data.toList : Nat)) ∧ w = w' := by
  unfold maxLen at hs
  have hsz : s.data.toList.length = s.size := Array.length_toList
  have HSZ := Lib.hid hsz
  clear hsz
  go_enter Try.func63, Try.ntmps63
  go_wp2
  go_loop [3, 4] (fun r i => ∃ k : Nat, k ≤ s.size ∧ i = .int .i64 k ∧ r = .int .u32 (crcFold (s.data.toList.take k) 4294967295 : Nat)) (fun _ i => s.size - (intOf i).toNat)
  case atStart => exact ⟨0, Nat.zero_le _, rfl, rfl⟩
  case round =>
    obtain ⟨k, hk, rfl, rfl⟩ := hrel
    by_cases hlt : k < s.size
    · obtain ⟨R, hR⟩ : ∃ R, R = crcFold (List.take k s.data.toList) 4294967295 := ⟨_, rfl⟩
      have hRlt : R < 4294967296 := by rw [hR]; exact crcFold_lt _ (by omega)
      have HR := Lib.hid hR
      rw [← hR]
      clear hR
      obtain ⟨ch, hch⟩ : ∃ ch : UInt8, ch = s[k] := ⟨_, rfl⟩
      have HC := Lib.hid hch
      have hc256 := ch.toNat_lt
      go_wp2
      rw [← hch]
      clear hch
      go_loop [3, 5, 6] (fun r c i => ∃ m a b : Nat, m ≤ 8 ∧ i = .int .i64 m ∧ a < 4294967296 ∧ b < 2 ^ (8 - m) ∧ r = .int .u32 (a : Int) ∧ c = .int .u8 (b : Int) ∧ crcBits (8 - m) (a ^^^ b) = crcByte R ch) (fun _ _ i => 8 - (intOf i).toNat)
      case atStart => exact ⟨0, R, ch.toNat, Nat.zero_le _, rfl, hRlt, hc256, rfl, rfl, rfl⟩
      case round =>
        obtain ⟨m, a, b, hm, rfl, ha, hb, rfl, rfl, hab⟩ := hrel
        have HAB := Lib.hid hab
        have HB := Lib.hid hb
        have hb256 : b < 256 := Nat.lt_of_lt_of_le hb (by rw [show (256 : Nat) = 2 ^ 8 from rfl]; exact Nat.pow_le_pow_right (by omega) (by omega))
        clear hab hb
        by_cases hm8 : m < 8
        · have hnext : crcBits (8 - (m + 1)) ((if (b + a) % 2 = 1 then a / 2 ^^^ 3988292384 else a / 2) ^^^ (b / 2)) = crcByte R ch := by
            have h := HAB.out
            rw [show 8 - m = (8 - (m + 1)) + 1 by omega, crcBits, crcBit_xor] at h
            exact h
          have hbn : b / 2 < 2 ^ (8 - (m + 1)) := by
            have h := HB.out
            rw [show 8 - m = (8 - (m + 1)) + 1 by omega, Nat.pow_succ] at h
            omega
          have HN := Lib.hid hnext
          have HBN := Lib.hid hbn
          clear hnext hbn
          have hp : bits .xor .u32 ((a : Int) / 2) 3988292384 = ((a / 2 ^^^ 3988292384 : Nat) : Int) := u32_xor_nat (a / 2) 3988292384 (by omega) (by omega)
          have hxlt : a / 2 ^^^ 3988292384 < 4294967296 := Nat.xor_lt_two_pow (n := 32) (by omega) (by omega)
          by_cases hodd : (b + a) % 2 = 1
          · have ht : (((b : Int) + (a : Int)) % 2 == 1) = true := by simp; omega
            have HO := Lib.hid hodd
            clear hodd
            go_wp2
            go_round
            case rel => exact ⟨m + 1, a / 2 ^^^ 3988292384, b / 2, by omega, by go_num, hxlt, HBN.out, rfl, rfl, by have h := HN.out; rw [if_pos HO.out] at h; exact h⟩
            case measure => simp [intOf]; omega
          · have ht : (((b : Int) + (a : Int)) % 2 == 1) = false := by simp; omega
            have HO := Lib.hid hodd
            clear hodd
            go_wp2
            go_round
            case rel => exact ⟨m + 1, a / 2, b / 2, by omega, by go_num, by omega, HBN.out, rfl, rfl, by have h := HN.out; rw [if_neg HO.out] at h; exact h⟩
            case measure => simp [intOf]; omega
        · obtain rfl : m = 8 := by omega
          have hb0 : b = 0 := by have := HB.out; simp at this; exact this
          have hres : a = crcByte R ch := by have h := HAB.out; rw [hb0] at h; simpa [crcBits] using h
          have HRES := Lib.hid hres
          clear hb0 hres
          go_wp2
          go_round
          case rel =>
            refine ⟨k + 1, by omega, by go_num, ?_⟩
            rw [List.take_succ_eq_append_getElem (by rw [HSZ.out]; exact hlt), crcFold_snoc, ← HR.out, HRES.out, HC.out]
            rfl
          case measure => simp [intOf]; omega
    · have hfin : crcFold (s.data.toList.take k) 4294967295 = crcFold s.data.toList 4294967295 := by rw [List.take_of_length_le (by rw [HSZ.out]; omega)]
      have hflt := crcFold_lt s.data.toList (r := 4294967295) (by omega)
      rw [hfin]
      obtain ⟨Z, hZ⟩ : ∃ Z, Z = crcFold s.data.toList 4294967295 := ⟨_, rfl⟩
      rw [← hZ] at hflt ⊢
      have HZ := Lib.hid hZ
      clear hZ hfin
      go_wp2
      go_ret
      refine ⟨ret_int ?_, rfl⟩
      unfold crcSum
      rw [← HZ.out]
      omega
end Go.Proofs.Ytjmehamkpmimkaa
