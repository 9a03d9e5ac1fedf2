/- The walk of the law CrcTells: it answers true, and turns nothing of old. -/
import Derived.Test.YtdllafmponmkmaaCrcOpensW
import Derived.Test.YtdllafmponmkmaaCrcBurst
namespace Go.Proofs.Ytdllafmponmkmaa
open Go.RowKit

/-- The octets behind i turns. -/
def turned (l : List UInt8) (k t i : Nat) : List UInt8 := xorL (sealed l) (leBytes (sealed l).length (t % 2 ^ i * 2 ^ k))

theorem xorL_at {l m : List UInt8} {j : Nat} {x y : UInt8} (h1 : l[j]? = some x) (h2 : m[j]? = some y) : (xorL l m)[j]? = some (x ^^^ y) := by
  simp [xorL, List.getElem?_zipWith, h1, h2]

theorem turned_len (l : List UInt8) (k t i : Nat) : (turned l k t i).length = (sealed l).length := by simp [turned, xorL, leBytes_len]

theorem bit_next (t i : Nat) : t % 2 ^ (i + 1) = t % 2 ^ i + t / 2 ^ i % 2 * 2 ^ i := by
  rw [Nat.pow_succ, Nat.mod_mul, Nat.mul_comm]

theorem turned_same (l : List UInt8) (k t i : Nat) (h : t / 2 ^ i % 2 = 0) : turned l k t (i + 1) = turned l k t i := by
  unfold turned
  rw [bit_next, h]
  simp

theorem byte_xor (a b j : Nat) : UInt8.ofNat ((a ^^^ b) / 256 ^ j) = UInt8.ofNat (a / 256 ^ j) ^^^ UInt8.ofNat (b / 256 ^ j) := by
  have e : (256 : Nat) ^ j = 2 ^ (8 * j) := by rw [Nat.pow_mul]
  apply UInt8.toNat_inj.1
  rw [UInt8.toNat_xor, UInt8.toNat_ofNat', UInt8.toNat_ofNat', UInt8.toNat_ofNat', e, ← Nat.shiftRight_eq_div_pow, ← Nat.shiftRight_eq_div_pow, ← Nat.shiftRight_eq_div_pow, Nat.shiftRight_xor_distrib, Nat.xor_mod_two_pow]

theorem add_pow_xor {a i : Nat} (h : a < 2 ^ i) : a + 2 ^ i = a ^^^ 2 ^ i := by
  have := Nat.two_pow_add_eq_or_of_lt h 1
  rw [Nat.mul_one] at this
  rw [Nat.add_comm, this]
  apply Nat.eq_of_testBit_eq
  intro j
  rw [Nat.testBit_or, Nat.testBit_xor, Nat.testBit_two_pow]
  by_cases hj : i = j
  · subst hj
    rw [Nat.testBit_lt_two_pow h]
    simp
  · simp [hj]

theorem pow_byte (p j : Nat) : UInt8.ofNat (2 ^ p / 256 ^ j) = if j = p / 8 then UInt8.ofNat (2 ^ (p % 8)) else 0 := by
  have e : (256 : Nat) ^ j = 2 ^ (8 * j) := by rw [Nat.pow_mul]
  rw [e]
  by_cases h : 8 * j ≤ p
  · rw [Nat.pow_div h (by omega)]
    by_cases hj : j = p / 8
    · rw [if_pos hj, show p - 8 * j = p % 8 by omega]
    · rw [if_neg hj]
      obtain ⟨c, hc⟩ : ∃ c, p - 8 * j = 8 + c := ⟨p - 8 * j - 8, by omega⟩
      rw [hc, Nat.pow_add]
      apply UInt8.toNat_inj.1
      rw [UInt8.toNat_ofNat', Nat.mul_mod_right]
      rfl
  · rw [if_neg (by omega), Nat.div_eq_of_lt (Nat.pow_lt_pow_right (by omega) (by omega))]
    rfl

theorem turned_flip (l : List UInt8) (k t i : Nat) (h : t / 2 ^ i % 2 = 1) (x : UInt8) (hx : (turned l k t i)[(k + i) / 8]? = some x) :
    turned l k t (i + 1) = (turned l k t i).set ((k + i) / 8) (x ^^^ UInt8.ofNat (2 ^ ((k + i) % 8))) := by
  apply List.ext_getElem?
  intro j
  have hN : t % 2 ^ (i + 1) * 2 ^ k = t % 2 ^ i * 2 ^ k ^^^ 2 ^ (k + i) := by
    rw [bit_next, h, Nat.one_mul, Nat.add_mul, ← Nat.pow_add, Nat.add_comm i k]
    refine add_pow_xor ?_
    rw [Nat.add_comm k i, Nat.pow_add]
    exact Nat.mul_lt_mul_of_pos_right (Nat.mod_lt _ (Nat.two_pow_pos i)) (Nat.two_pow_pos k)
  rcases Nat.lt_or_ge j (sealed l).length with hj | hj
  · have h0 : (sealed l)[j]? = some (sealed l)[j] := List.getElem?_eq_getElem hj
    have h1 := xorL_at h0 (leBytes_at (sealed l).length (t % 2 ^ (i + 1) * 2 ^ k) j hj)
    have h2 := xorL_at h0 (leBytes_at (sealed l).length (t % 2 ^ i * 2 ^ k) j hj)
    have hL : (turned l k t (i + 1))[j]? = some ((sealed l)[j] ^^^ UInt8.ofNat (t % 2 ^ (i + 1) * 2 ^ k / 256 ^ j)) := h1
    have hR : (turned l k t i)[j]? = some ((sealed l)[j] ^^^ UInt8.ofNat (t % 2 ^ i * 2 ^ k / 256 ^ j)) := h2
    rw [hL, hN, byte_xor, pow_byte, List.getElem?_set]
    by_cases hji : j = (k + i) / 8
    · subst hji
      rw [if_pos rfl, if_pos rfl, if_pos (by rw [turned_len]; exact hj)]
      rw [hR] at hx
      injection hx with hx
      rw [← hx, UInt8.xor_assoc]
    · rw [if_neg hji, if_neg (Ne.symm hji), hR]
      simp
  · rw [List.getElem?_eq_none (by rw [turned_len]; exact hj), List.getElem?_eq_none (by rw [List.length_set, turned_len]; exact hj)]

theorem turned_all (l : List UInt8) (k t : Nat) (ht : 0 < t) (ht' : t < 4294967296) (hk : k + 32 ≤ 8 * (sealed l).length) :
    ¬ sealed ((turned l k t 32).take ((turned l k t 32).length - 4)) = turned l k t 32 := by
  refine burst_told l _ k t ht ht' hk ?_
  unfold turned
  rw [Nat.mod_eq_of_lt (show t < 2 ^ 32 by simpa using ht')]

set_option maxHeartbeats 1600000 in
set_option maxRecDepth 100000 in
theorem crcTells_walk (A : Option Addr) (n c : Nat) (l : List UInt8) (at_ turn : Int) (w : World) (hl : l.length = n) (_hnc : n ≤ c) (hrl : Rd All w A (l.map bv)) (ht0 : 0 ≤ turn) (ht1 : turn < 4294967296) :
    Calls Try.prog 6 #[.slice A n c, .int .i64 at_, .int .u32 turn] w fun e w' => e = .returned (.bool true) ∧ Mod Nil w w' := by
  obtain ⟨t, rfl⟩ := Int.eq_ofNat_of_zero_le ht0
  have HL := Lib.hid hl
  have HRL := Lib.hid hrl
  have ht : t < 4294967296 := by omega
  clear hl hrl ht0 ht1
  by_cases h1 : 300 < n
  · go_enter Try.func6, Try.ntmps6
    go_wp2_with fail
    refine (awake2_any _).mono ?_
    rintro e w1 ⟨rfl, hm1⟩
    have HM1 := Lib.hid hm1
    clear hm1
    go_wp2_with fail
    refine (awake2_any _).mono ?_
    rintro e w2 ⟨rfl, hm2⟩
    have HM2 := Lib.hid hm2
    clear hm2
    go_wp2_with fail
    go_ret
    exact ⟨rfl, HM1.out.trans HM2.out⟩
  by_cases h2 : t = 0
  · subst h2
    clear ht
    go_enter Try.func6, Try.ntmps6
    go_wp2_with fail
    refine (awake2_any _).mono ?_
    rintro e w1 ⟨rfl, hm1⟩
    have HM1 := Lib.hid hm1
    clear hm1
    go_wp2_with fail
    refine (awake2_any _).mono ?_
    rintro e w2 ⟨rfl, hm2⟩
    have HM2 := Lib.hid hm2
    clear hm2
    go_wp2_with fail
    go_ret
    exact ⟨rfl, HM1.out.trans HM2.out⟩
  have ht2 : ((t : Int) == 0) = false := by simp; omega
  go_enter Try.func6, Try.ntmps6
  go_wp2_with fail
  refine (awake2_any _).mono ?_
  rintro e w1 ⟨rfl, hm1⟩
  have HM1 := Lib.hid hm1
  clear hm1
  go_wp2_with fail
  refine (seal_any All A n c l _ HL.out (by omega) (HRL.out.keep0 HM1.out)).mono ?_
  rintro e w2 ⟨v2, rfl, hown2, hm2⟩
  obtain ⟨g, cap, rfl, hg, hgl⟩ := hown2.form (by omega)
  have HO2 := Lib.hid hown2
  have HM2 := Lib.hid (HM1.out.trans hm2)
  have hgw : w.heap.size ≤ g := Nat.le_trans HM1.out.size hg
  clear hm2 hown2
  go_wp2_with fail
  refine (rest_any _ _ _ (by omega) (by omega)).mono ?_
  rintro e w3 ⟨rfl, rfl⟩
  obtain ⟨k, hk⟩ : ∃ k : Nat, at_ % (8 * ((n : Int) + 4) - 31) = (k : Int) := ⟨(at_ % (8 * ((n : Int) + 4) - 31)).toNat, by have := Int.emod_nonneg at_ (show (8 * ((n : Int) + 4) - 31) ≠ 0 by omega); omega⟩
  have hklt : k + 32 ≤ 8 * (n + 4) := by have := Int.emod_lt_of_pos at_ (show 0 < (8 * ((n : Int) + 4) - 31) by omega); omega
  rw [hk]
  clear hk
  have hsl : (sealed l).length = n + 4 := by rw [← HL.out]; simp [sealed, sumOctets]
  have HSL := Lib.hid hsl
  clear hsl
  go_wp2_with fail
  go_loopw [9] (fun v wr => ∃ i : Nat, i ≤ 32 ∧ v = .int .i64 i ∧ wr.ownsRow w1.heap.size 5 1 (.slice (some ⟨g, 0, none⟩) (n + 4) cap) (n + 4) ((turned l k t i).map bv) ∧ Mod Nil w wr) (fun v _ => 32 - (intOf v).toNat)
  case atStart =>
    refine ⟨0, Nat.zero_le _, rfl, ?_, HM2.out⟩
    have : turned l k t 0 = sealed l := by
      unfold turned
      rw [Nat.pow_zero, Nat.mod_one, Nat.zero_mul]
      apply List.ext_getElem?
      intro j
      rcases Nat.lt_or_ge j (sealed l).length with hj | hj
      · rw [xorL_at (List.getElem?_eq_getElem hj) (leBytes_at _ _ _ hj)]
        simp
      · rw [List.getElem?_eq_none (by simp [xorL, leBytes_len]; exact hj), List.getElem?_eq_none hj]
    rw [this]
    exact HO2.out
  case round =>
    obtain ⟨i, hi, rfl, hown, hm⟩ := hrel
    have HO := Lib.hid hown
    have HM := Lib.hid hm
    clear hown hm
    by_cases h32 : i < 32
    · have hb : bits .and .u32 ((t : Int) / 2 ^ i) 1 = ((t / 2 ^ i % 2 : Nat) : Int) := by
        have e : (t : Int) / 2 ^ i = ((t / 2 ^ i : Nat) : Int) := by simp
        rw [e, show (1 : Int) = ((1 : Nat) : Int) from rfl, u32_and_nat _ _ (Nat.lt_of_le_of_lt (Nat.div_le_self _ _) ht) (by omega), nat_mask1]
      by_cases hbit : t / 2 ^ i % 2 = 1
      · have hT : (bits .and .u32 ((t : Int) / 2 ^ i) 1 == 1) = true := by rw [hb, hbit]; rfl
        clear hb
        have hp : (k + i) / 8 < n + 4 := by omega
        obtain ⟨x, hx⟩ : ∃ x, (turned l k t i)[(k + i) / 8]? = some x := ⟨_, List.getElem?_eq_getElem (by rw [turned_len, HSL.out]; exact hp)⟩
        have hcell : wr.cell? ⟨g, (k + i) / 8, none⟩ = some (.int .u8 (x.toNat : Int)) := by
          rw [HO.out.cellAt _ (by omega), List.getElem?_map, hx]
          rfl
        have hfr := HO.out.frozenAt ((k + i) / 8)
        have hx256 := x.toNat_lt
        have HX := Lib.hid hx
        have HB := Lib.hid hbit
        clear hx hbit
        go_wp2
        go_region
        go_wp2
        go_roundw
        case rel =>
          refine ⟨i + 1, by omega, by go_num, ?_, ?_⟩
          · have hs := (HO.out.stored ((k + i) / 8) (bv (x ^^^ UInt8.ofNat (2 ^ ((k + i) % 8))))).1
            rw [turned_flip l k t i HB.out x HX.out, List.map_set]
            have ev : bv (x ^^^ UInt8.ofNat (2 ^ ((k + i) % 8))) = .int .u8 (bits BinOp.xor IntKind.u8 (x.toNat : Int) (2 ^ ((k + i) % 8) % 256)) := by
              have e : (2 : Int) ^ ((k + i) % 8) % 256 = ((2 ^ ((k + i) % 8) % 256 : Nat) : Int) := by simp
              rw [e, u8_xor_nat _ _ (by omega) (Nat.mod_lt _ (by omega))]
              unfold bv
              rw [UInt8.toNat_xor, UInt8.toNat_ofNat']
            rw [ev] at hs ⊢
            exact hs
          · exact (HM.out.set (p := ⟨g, (k + i) / 8, none⟩) (.inr hgw) _).drew
        case measure => simp [intOf]; omega
      · have hz : t / 2 ^ i % 2 = 0 := by omega
        have hT : (bits .and .u32 ((t : Int) / 2 ^ i) 1 == 1) = false := by rw [hb, hz]; rfl
        clear hb
        have HB := Lib.hid hz
        clear hz hbit
        go_wp2
        go_roundw
        case rel => exact ⟨i + 1, by omega, by go_num, by rw [turned_same l k t i HB.out]; exact HO.out, HM.out⟩
        case measure => simp [intOf]; omega
    · obtain rfl : i = 32 := by omega
      obtain ⟨m, hmt⟩ : ∃ m, m = turned l k t 32 := ⟨_, rfl⟩
      have hml : m.length = n + 4 := by rw [hmt, turned_len, HSL.out]
      have hno : openM m = ([], 12) := by
        have h := turned_all l k t (by omega) ht (by rw [HSL.out]; exact hklt)
        rw [← hmt] at h
        unfold openM
        rw [if_neg (by omega), if_neg h]
      have hsl := IsSl.of_own HO.out
      rw [← hmt] at hsl
      obtain ⟨A5, c5, he, hc5, _, _, hr5⟩ := hsl
      injection he with he1 he2 he3
      subst he1 he3
      have HML := Lib.hid hml
      have HR5 := Lib.hid hr5
      have HNO := Lib.hid hno
      clear hmt hml hr5 hno
      go_wp2_with fail
      refine (open_any _ (n + 4) _ m _ HML.out hc5 (by omega) HR5.out).mono ?_
      rintro e w5 ⟨y, rfl, hy, hm5⟩
      rw [HNO.out] at hy ⊢
      have HM5 := Lib.hid (HM.out.trans hm5)
      obtain ⟨AY, cY, rfl, _, _, _, _⟩ := hy
      clear hm5
      go_wp2_with fail
      go_ret
      exact ⟨rfl, HM5.out⟩

end Go.Proofs.Ytdllafmponmkmaa
