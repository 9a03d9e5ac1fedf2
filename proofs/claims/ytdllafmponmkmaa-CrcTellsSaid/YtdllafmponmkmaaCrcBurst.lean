/- Plain facts on the sum: a run of at most 32 turned bits is told. -/
import Derived.Test.YtdllafmponmkmaaCrcX
namespace Go.Proofs.Ytdllafmponmkmaa
open Go.RowKit

theorem crcBit_lin (a b : Nat) : crcBit (a ^^^ b) = crcBit a ^^^ crcBit b := by
  unfold crcBit
  have h := xor_mod2 a b
  rw [h, xor_div2]
  rcases Nat.mod_two_eq_zero_or_one a with ha | ha <;> rcases Nat.mod_two_eq_zero_or_one b with hb | hb
  · rw [if_neg (by omega), if_neg (by omega), if_neg (by omega)]
  · rw [if_pos (by omega), if_neg (by omega), if_pos (by omega), Nat.xor_assoc]
  · rw [if_pos (by omega), if_pos (by omega), if_neg (by omega), Nat.xor_assoc, Nat.xor_assoc, Nat.xor_comm (b / 2)]
  · rw [if_neg (by omega), if_pos (by omega), if_pos (by omega)]
    rw [Nat.xor_assoc, Nat.xor_comm 3988292384 (b / 2 ^^^ 3988292384), Nat.xor_assoc, Nat.xor_self, Nat.xor_zero]
theorem crcBits_lin (k : Nat) : ∀ a b, crcBits k (a ^^^ b) = crcBits k a ^^^ crcBits k b := by
  induction k with
  | zero => exact fun _ _ => rfl
  | succ k ih => exact fun a b => by rw [crcBits, crcBits, crcBits, crcBit_lin, ih]
theorem crcBits_zero (k : Nat) : crcBits k 0 = 0 := by
  induction k with
  | zero => rfl
  | succ k ih => exact ih
theorem crcBits_add (a b : Nat) : ∀ r, crcBits (a + b) r = crcBits b (crcBits a r) := by
  induction a with
  | zero => intro r; rw [Nat.zero_add]; rfl
  | succ a ih => intro r; rw [Nat.add_right_comm]; exact ih (crcBit r)
theorem crcBit_ne {r : Nat} (h : r < 4294967296) (h0 : crcBit r = 0) : r = 0 := by
  unfold crcBit at h0
  split at h0
  · exfalso
    have : r / 2 = 3988292384 := by
      have := congrArg (· ^^^ 3988292384) h0
      simpa [Nat.xor_assoc] using this
    omega
  · omega
theorem crcBits_ne (k : Nat) : ∀ {r : Nat}, r < 4294967296 → crcBits k r = 0 → r = 0 := by
  induction k with
  | zero => exact fun _ h => h
  | succ k ih => exact fun h h0 => crcBit_ne h (ih (crcBit_lt h) h0)
theorem crcBits_inj (k : Nat) {a b : Nat} (ha : a < 4294967296) (hb : b < 4294967296) (h : crcBits k a = crcBits k b) : a = b := by
  have hx : crcBits k (a ^^^ b) = 0 := by rw [crcBits_lin, h, Nat.xor_self]
  have := crcBits_ne k (Nat.xor_lt_two_pow (n := 32) ha hb) hx
  have := congrArg (· ^^^ b) this
  simpa [Nat.xor_assoc] using this

/-- Bits one by one. -/
def feed : Nat → Nat → Nat → Nat
  | 0, _, r => r
  | k + 1, N, r => feed k (N / 2) (crcBit (r ^^^ (N % 2)))
theorem crcBit_split (a b : Nat) : crcBit (a ^^^ b) = crcBit (a ^^^ (b % 2)) ^^^ (b / 2) := by
  rw [crcBit_xor a b, crcBit_xor a (b % 2)]
  have h1 : b % 2 / 2 = 0 := by omega
  have h2 : (b % 2 + a) % 2 = (b + a) % 2 := by omega
  rw [h1, h2, Nat.xor_zero]
theorem feed_bits (k : Nat) : ∀ N r, N < 2 ^ k → feed k N r = crcBits k (r ^^^ N) := by
  induction k with
  | zero =>
    intro N r h
    obtain rfl : N = 0 := by rw [Nat.pow_zero] at h; omega
    rw [Nat.xor_zero]; rfl
  | succ k ih =>
    intro N r h
    rw [feed, ih (N / 2) _ (by rw [Nat.pow_succ] at h; omega), crcBits, crcBit_split r N]
theorem feed_mod (k : Nat) : ∀ N r, feed k (N % 2 ^ k) r = feed k N r := by
  induction k with
  | zero => intro _ _; rfl
  | succ k ih =>
    intro N r
    rw [feed, feed]
    have h1 : N % 2 ^ (k + 1) % 2 = N % 2 := by
      rw [Nat.pow_succ, Nat.mul_comm]
      exact Nat.mod_mul_right_mod N 2 (2 ^ k)
    have h2 : N % 2 ^ (k + 1) / 2 = N / 2 % 2 ^ k := by
      rw [Nat.pow_succ, Nat.mul_comm, Nat.mod_mul_right_div_self]
    rw [h1, h2, ih]
theorem feed_add (a b : Nat) : ∀ N r, feed (a + b) N r = feed b (N / 2 ^ a) (feed a N r) := by
  induction a with
  | zero => intro N r; simp [feed]
  | succ a ih =>
    intro N r
    rw [Nat.add_right_comm, feed, ih, feed, Nat.div_div_eq_div_mul, Nat.pow_succ, Nat.mul_comm]

/-- So many octets of a number, the lowest first. -/
def leBytes : Nat → Nat → List UInt8
  | 0, _ => []
  | n + 1, N => UInt8.ofNat N :: leBytes n (N / 256)
theorem leBytes_len (n : Nat) : ∀ N, (leBytes n N).length = n := by
  induction n with
  | zero => intro _; rfl
  | succ n ih => intro N; rw [leBytes, List.length_cons, ih]
theorem leBytes_at (n : Nat) : ∀ N j, j < n → (leBytes n N)[j]? = some (UInt8.ofNat (N / 256 ^ j)) := by
  induction n with
  | zero => intro _ j h; omega
  | succ n ih =>
    intro N j h
    rw [leBytes]
    match j with
    | 0 => simp
    | j + 1 =>
      rw [List.getElem?_cons_succ, ih _ j (by omega), Nat.div_div_eq_div_mul, Nat.pow_succ, Nat.mul_comm]
theorem crcByte_feed (r N : Nat) : crcByte r (UInt8.ofNat N) = feed 8 N r := by
  rw [← feed_mod 8 N r, feed_bits 8 _ _ (Nat.mod_lt _ (by decide))]
  unfold crcByte
  rw [show (UInt8.ofNat N).toNat = N % 2 ^ 8 from UInt8.toNat_ofNat']
theorem fold_feed (n : Nat) : ∀ N r, crcFold (leBytes n N) r = feed (8 * n) N r := by
  induction n with
  | zero => intro _ _; rfl
  | succ n ih =>
    intro N r
    show crcFold (leBytes n (N / 256)) (crcByte r (UInt8.ofNat N)) = _
    rw [ih, crcByte_feed, Nat.mul_succ, Nat.add_comm, feed_add]

def xorL : List UInt8 → List UInt8 → List UInt8 := List.zipWith (· ^^^ ·)
theorem crcByte_lin (r q : Nat) (c d : UInt8) : crcByte (r ^^^ q) (c ^^^ d) = crcByte r c ^^^ crcByte q d := by
  unfold crcByte
  rw [← crcBits_lin, UInt8.toNat_xor]
  congr 1
  rw [Nat.xor_assoc, Nat.xor_assoc]
  congr 1
  rw [← Nat.xor_assoc, ← Nat.xor_assoc, Nat.xor_comm q]
theorem fold_lin : ∀ (l m : List UInt8) (r q : Nat), l.length = m.length → crcFold (xorL l m) (r ^^^ q) = crcFold l r ^^^ crcFold m q
  | [], [], _, _, _ => rfl
  | c :: l, d :: m, r, q, h => by
    show crcFold (xorL l m) (crcByte (r ^^^ q) (c ^^^ d)) = crcFold l (crcByte r c) ^^^ crcFold m (crcByte q d)
    rw [crcByte_lin]
    exact fold_lin l m _ _ (by simpa using h)
  | [], _ :: _, _, _, h => by simp at h
  | _ :: _, [], _, _, h => by simp at h

/-- A run of bits tells. -/
theorem burst_ne (n k t : Nat) (ht : 0 < t) (ht' : t < 4294967296) (hk : k + 32 ≤ 8 * n) : crcFold (leBytes n (t * 2 ^ k)) 0 ≠ 0 := by
  rw [fold_feed]
  obtain ⟨m, hm⟩ : ∃ m, 8 * n = k + 32 + m := ⟨8 * n - (k + 32), by omega⟩
  rw [hm, feed_add, feed_add]
  have h1 : feed k (t * 2 ^ k) 0 = 0 := by
    rw [← feed_mod k, Nat.mul_mod_left, feed_bits k 0 0 (Nat.two_pow_pos k), Nat.xor_zero, crcBits_zero]
  have h2 : t * 2 ^ k / 2 ^ k = t := Nat.mul_div_cancel t (Nat.two_pow_pos k)
  have h3 : t * 2 ^ k / 2 ^ (k + 32) = 0 := by
    apply Nat.div_eq_of_lt
    rw [Nat.pow_add, Nat.mul_comm]
    exact Nat.mul_lt_mul_of_pos_left ht' (Nat.two_pow_pos k)
  rw [h1, h2, h3, feed_bits 32 t 0 (by simpa using ht'), feed_bits m 0 _ (Nat.two_pow_pos m), Nat.zero_xor, Nat.xor_zero]
  intro h
  have hlt := crcBits_lt 32 (r := t) (by omega)
  have := crcBits_ne 32 (r := t) (by omega) (crcBits_ne m hlt h)
  omega

/-- What is sealed has one sum, whatever it is. -/
theorem sumOctets_le (x : Nat) : sumOctets x = leBytes 4 x := by
  simp [sumOctets, leBytes, Nat.div_div_eq_div_mul]
theorem fold_sum (x r : Nat) (hx : x < 4294967296) : crcFold (sumOctets x) r = crcBits 32 (r ^^^ x) := by
  rw [sumOctets_le, fold_feed, feed_bits 32 x r (by simpa using hx)]
theorem fold_sealed (l : List UInt8) : crcFold (sealed l) 4294967295 = crcBits 32 4294967295 := by
  unfold sealed
  rw [crcFold_append, fold_sum _ _ (crcSum_lt l)]
  congr 1
  have h := crcFold_lt l (r := 4294967295) (by omega)
  unfold crcSum
  rw [← nat_not32 h]
  rw [Nat.xor_comm 4294967295, ← Nat.xor_assoc, Nat.xor_self, Nat.zero_xor]

/-- A run of at most 32 bits that are turned in what is sealed: it is sealed no more. -/
theorem burst_told (l m : List UInt8) (k t : Nat) (ht : 0 < t) (ht' : t < 4294967296) (hk : k + 32 ≤ 8 * (sealed l).length) (hm : m = xorL (sealed l) (leBytes (sealed l).length (t * 2 ^ k))) :
    ¬ sealed (m.take (m.length - 4)) = m := by
  intro h
  have h1 : crcFold m 4294967295 = crcBits 32 4294967295 := by rw [← h]; exact fold_sealed _
  have h2 : crcFold m 4294967295 = crcFold (sealed l) 4294967295 ^^^ crcFold (leBytes (sealed l).length (t * 2 ^ k)) 0 := by
    rw [hm]
    have := fold_lin (sealed l) (leBytes (sealed l).length (t * 2 ^ k)) 4294967295 0 (by rw [leBytes_len])
    rwa [Nat.xor_zero] at this
  rw [fold_sealed, h1] at h2
  refine burst_ne _ k t ht ht' hk ?_
  have := congrArg (crcBits 32 4294967295 ^^^ ·) h2
  simp only [Nat.xor_self] at this
  rw [← Nat.xor_assoc, Nat.xor_self, Nat.zero_xor] at this
  exact this.symm

end Go.Proofs.Ytdllafmponmkmaa
