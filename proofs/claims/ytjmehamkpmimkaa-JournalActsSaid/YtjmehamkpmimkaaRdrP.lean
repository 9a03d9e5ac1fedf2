/- Plain laws of what a reader reads: a tail stays behind; what is written is read. -/
import Derived.Test.YtjmehamkpmimkaaRdrW
import Derived.Test.YtjmehamkpmimkaaOctWrW
namespace Go.Proofs.Ytjmehamkpmimkaa
open Go.RowKit

theorem rNum_app (x t : List UInt8) (h : (rNum (x, 0)).2.2 = 0) : rNum (x ++ t, 0) = ((rNum (x, 0)).1, ((rNum (x, 0)).2.1 ++ t, 0)) := by
  have hx : ¬ x.length < 4 := fun hc => by unfold rNum at h; simp [hc] at h
  have e1 : (x ++ t).take 4 = x.take 4 := List.take_append_of_le_length (by omega)
  have e2 : (x ++ t).drop 4 = x.drop 4 ++ t := List.drop_append_of_le_length (by omega)
  have hv : ¬ 2147483647 < beVal (x.take 4) := fun hc => by unfold rNum at h; simp [hx, hc] at h
  have hl : ¬ (x ++ t).length < 4 := by rw [List.length_append]; omega
  unfold rNum
  simp only [e1, e2, if_neg hx, if_neg hv, if_neg hl, if_true]
theorem rInt_app (x t : List UInt8) (h : (rInt (x, 0)).2.2 = 0) : rInt (x ++ t, 0) = ((rInt (x, 0)).1, ((rInt (x, 0)).2.1 ++ t, 0)) := by
  have hx : ¬ x.length < 8 := fun hc => by unfold rInt at h; simp [hc] at h
  have e1 : (x ++ t).take 8 = x.take 8 := List.take_append_of_le_length (by omega)
  have e2 : (x ++ t).drop 8 = x.drop 8 ++ t := List.drop_append_of_le_length (by omega)
  have hl : ¬ (x ++ t).length < 8 := by rw [List.length_append]; omega
  unfold rInt
  simp only [e1, e2, if_neg hx, if_neg hl, if_true]
theorem rText_app (x t : List UInt8) (h : (rText (x, 0)).2.2 = 0) : rText (x ++ t, 0) = ((rText (x, 0)).1, ((rText (x, 0)).2.1 ++ t, 0)) := by
  have h0 : (rNum (x, 0)).2.2 = 0 := by
    by_cases hc : (rNum (x, 0)).2.2 = 0
    · exact hc
    · unfold rText at h; rw [if_neg hc] at h; exact h
  have hx : ¬ (rNum (x, 0)).2.1.length < (rNum (x, 0)).1 := fun hc => by unfold rText at h; simp [h0, hc] at h
  have hl : ¬ ((rNum (x, 0)).2.1 ++ t).length < (rNum (x, 0)).1 := by rw [List.length_append]; omega
  unfold rText
  rw [rNum_app x t h0]
  simp only [if_neg hx, if_neg hl, h0, if_true]
  rw [List.take_append_of_le_length (by omega), List.drop_append_of_le_length (by omega)]

theorem rNum_err (s : RSt) (h : s.2 ≠ 0) : rNum s = (0, s) := by unfold rNum; rw [if_neg h]
theorem rNum_len (s : RSt) : (rNum s).2.1.length ≤ s.1.length := by
  unfold rNum
  split
  · split
    · exact Nat.le_refl _
    · split
      · exact Nat.le_refl _
      · simp
  · exact Nat.le_refl _
theorem rInt_len (s : RSt) : (rInt s).2.1.length ≤ s.1.length := by
  unfold rInt
  split
  · split
    · exact Nat.le_refl _
    · simp
  · exact Nat.le_refl _
theorem rText_len (s : RSt) : (rText s).2.1.length ≤ s.1.length := by
  have := rNum_len s
  unfold rText
  split
  · split
    · exact Nat.le_refl _
    · simp; omega
  · exact Nat.le_refl _
theorem rNum_le (s : RSt) : (rNum s).1 ≤ 2147483647 := by
  unfold rNum
  split
  · split
    · exact Nat.zero_le _
    · split
      · exact Nat.zero_le _
      · simp only []; omega
  · exact Nat.zero_le _

theorem beVal_be (k x : Nat) : beVal (beBytes k x) = x % 256 ^ k := by
  have key : ∀ (k : Nat) (a : Nat), (beBytes k x).foldl (fun n c => n * 256 + c.toNat) a = a * 256 ^ k + x % 256 ^ k := by
    intro k
    induction k with
    | zero => intro a; simp [beBytes]; omega
    | succ k ih =>
      intro a
      rw [beBytes, List.foldl_cons, ih, UInt8.toNat_ofNat']
      have h1 : x % 256 ^ (k + 1) = 256 ^ k * (x / 256 ^ k % 256) + x % 256 ^ k := by
        rw [Nat.pow_succ, Nat.mod_mul, Nat.add_comm]
      have h2 : a * 256 ^ (k + 1) = a * 256 * 256 ^ k := by rw [Nat.pow_succ, Nat.mul_comm (256 ^ k), Nat.mul_assoc]
      have h3 : 256 ^ k * (x / 256 ^ k % 256) = x / 256 ^ k % 2 ^ 8 * 256 ^ k := Nat.mul_comm _ _
      rw [h1, h2, h3, Nat.add_mul]
      omega
  have := key k 0
  simpa [beVal] using this

theorem rNum_enc (n : Int) (t : List UInt8) (h : okNum n = true) : rNum (encNum n ++ t, 0) = (n.toNat, (t, 0)) := by
  unfold okNum at h
  simp at h
  have e : encNum n = beBytes 4 n.toNat := by unfold encNum; rw [if_neg (by omega)]
  have hl : (encNum n).length = 4 := by rw [e, beBytes_len]
  have e1 : (encNum n ++ t).take 4 = encNum n := List.take_left' hl
  have e2 : (encNum n ++ t).drop 4 = t := List.drop_left' hl
  have hv : beVal (encNum n) = n.toNat := by rw [e, beVal_be]; exact Nat.mod_eq_of_lt (by omega)
  have hs : ¬ (encNum n ++ t).length < 4 := by rw [List.length_append]; omega
  unfold rNum
  simp only [e1, e2, hv, if_neg hs, if_true]
  rw [if_neg (by omega)]
theorem rInt_enc (n : Int) (t : List UInt8) (h1 : -9223372036854775808 ≤ n) (h2 : n ≤ 9223372036854775807) : rInt (encInt n ++ t, 0) = (n, (t, 0)) := by
  have hl : (encInt n).length = 8 := beBytes_len _ _
  have e1 : (encInt n ++ t).take 8 = encInt n := List.take_left' hl
  have e2 : (encInt n ++ t).drop 8 = t := List.drop_left' hl
  have hv : beVal (encInt n) = bits64 n := by unfold encInt; rw [beVal_be]; exact Nat.mod_eq_of_lt (bits64_lt n)
  have hs : ¬ (encInt n ++ t).length < 8 := by rw [List.length_append]; omega
  have hw : wrap64 ((bits64 n : Nat) : Int) = n := by
    unfold wrap64 bits64
    omega
  unfold rInt
  simp only [e1, e2, hv, if_neg hs, if_true, hw]
theorem rText_enc (x t : List UInt8) (h : x.length ≤ 2147483647) : rText (encText x ++ t, 0) = (x, (t, 0)) := by
  have hn := rNum_enc x.length (x ++ t) (okNum_nat _ h)
  unfold rText encText
  rw [List.append_assoc, hn]
  simp
theorem rLoop_enc (l : List (List UInt8)) (t : List UInt8) (h : ∀ x ∈ l, x.length ≤ 2147483647) : rLoop l.length ((l.map encText).flatten ++ t, 0) = (l, (t, 0)) := by
  induction l with
  | nil => rfl
  | cons x l ih =>
    have e := rText_enc x ((l.map encText).flatten ++ t) (h x (by simp))
    rw [List.map_cons, List.flatten_cons, List.append_assoc, List.length_cons, rLoop, e, ih (fun y hy => h y (by simp [hy]))]
    rfl
theorem rTexts_enc (l : List (List UInt8)) (t : List UInt8) (hl : l.length ≤ 1000000) (h : ∀ x ∈ l, x.length ≤ 2147483647) : rTexts (encTexts l ++ t, 0) = (l, (t, 0)) := by
  have hn := rNum_enc l.length ((l.map encText).flatten ++ t) (okNum_nat _ (by omega))
  have key : ∀ m : List (List UInt8), (∀ x ∈ m, x.length ≤ 2147483647) → m.length ≤ ((m.map encText).flatten).length := by
    intro m
    induction m with
    | nil => intro _; simp
    | cons x m ih =>
      intro hm
      have h1 := ih fun y hy => hm y (by simp [hy])
      have h2 : encNum (x.length : Int) = beBytes 4 x.length := by
        have := hm x (by simp)
        unfold encNum
        rw [if_neg (by omega)]
        rfl
      rw [List.map_cons, List.flatten_cons, List.length_append, List.length_cons, encText, List.length_append, h2, beBytes_len]
      omega
  have hlen := key l h
  unfold rTexts encTexts
  rw [List.append_assoc, hn]
  have hneg : ¬ (1000000 < l.length ∨ ((l.map encText).flatten ++ t).length < l.length) := by rw [List.length_append]; omega
  simp only [Int.toNat_natCast, rLoop_enc l t h, if_true, if_neg hneg]
end Go.Proofs.Ytjmehamkpmimkaa
