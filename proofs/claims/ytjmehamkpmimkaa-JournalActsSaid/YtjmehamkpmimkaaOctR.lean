/- Contracts of the reference of layer 1: what numbers and texts are written as. -/
import Derived.Test.YtjmehamkpmimkaaOctY
namespace Go.Proofs.Ytjmehamkpmimkaa
open Go.RowKit

set_option maxHeartbeats 1600000 in
set_option maxRecDepth 100000 in
theorem refOctets_any (x size : Nat) (w : World) (hx : x < 18446744073709551616) (hs : size ≤ 8) :
    Calls Try.prog 103 #[.int .u64 (x : Int), .int .i64 (size : Int)] w fun r w' => r = .returned (.string (str (beBytes size x))) ∧ Mod Nil w w' := by
  have HX := Lib.hid hx
  clear hx
  go_enter Try.func103, Try.ntmps103
  go_wp2_with fail
  go_loopw [0, 5, 6] (fun n s i wr => ∃ k : Nat, k ≤ size ∧ i = .int .i64 k ∧ n = .int .u64 ((x / 256 ^ k : Nat) : Int) ∧ s = .string (str (beBytes k x)) ∧ Mod Nil w wr) (fun _ _ i _ => size - (intOf i).toNat)
  case atStart => exact ⟨0, Nat.zero_le _, rfl, by simp, rfl, Mod.refl _ _⟩
  case round =>
    obtain ⟨k, hk, rfl, rfl, rfl, hm⟩ := hrel
    have HM := Lib.hid hm
    clear hm
    by_cases hlt : k < size
    · obtain ⟨y, hy⟩ : ∃ y, y = x / 256 ^ k := ⟨_, rfl⟩
      have hyl : y < 18446744073709551616 := by rw [hy]; exact Nat.lt_of_le_of_lt (Nat.div_le_self _ _) HX.out
      have hb : Value.int IntKind.u8 ((y : Int) % 256) = bv (UInt8.ofNat y) := by simp [bv]
      have hrd := Rd.cells1 wr (bv (UInt8.ofNat y)) 5
      rw [← hb] at hrd
      have kb := conv_bytes (l := [UInt8.ofNat y]) (n := 1) (by rw [List.map_cons, List.map_nil, ← hb]; exact hrd) rfl 1
      rw [← hy]
      have hnext : x / 256 ^ (k + 1) = y / 256 := by rw [hy, Nat.div_div_eq_div_mul, Nat.pow_succ]
      have hcat : str [UInt8.ofNat y] ++ str (beBytes k x) = str (beBytes (k + 1) x) := by rw [str_append, beBytes, ← hy]; rfl
      have hs1 : (str [UInt8.ofNat y]).size = 1 := rfl
      have hs2 : (str (beBytes k x)).size = k := by rw [str_size, beBytes_len]
      have HY := Lib.hid hyl
      have HNX := Lib.hid hnext
      clear hb hrd hy hyl hnext
      go_wp2_with fail
      go_roundw
      case rel => exact ⟨k + 1, by omega, by go_num, by rw [HNX.out, IntWalk.u64_in _ (by have := HY.out; omega)]; simp, rfl, HM.out.alloc _⟩
      case measure => simp [intOf] <;> omega
    · obtain rfl : k = size := by omega
      go_wp2_with fail
      go_ret
      exact ⟨rfl, HM.out⟩

/-- What numbers and texts are written as. -/
def encNum (n : Int) : List UInt8 := if n < 0 ∨ 2147483647 < n then [] else beBytes 4 n.toNat
def encInt (n : Int) : List UInt8 := beBytes 8 (bits64 n)
def encText (t : List UInt8) : List UInt8 := encNum t.length ++ t
def encTexts (l : List (List UInt8)) : List UInt8 := encNum l.length ++ (l.map encText).flatten
def okNum (n : Int) : Bool := !(n < 0) && !(2147483647 < n)

set_option maxHeartbeats 1600000 in
set_option maxRecDepth 100000 in
theorem refNum_any (n : Int) (w : World) :
    Calls Try.prog 91 #[.int .i64 n] w fun r w' => r = .returned (.tuple #[.string (str (encNum n)), .bool (okNum n)]) ∧ Mod Nil w w' := by
  by_cases hn : n < 0 ∨ 2147483647 < n
  · have h1 : encNum n = [] := by unfold encNum; rw [if_pos hn]
    have h2 : okNum n = false := by unfold okNum; rcases hn with h | h <;> simp [h]
    rw [h1, h2]
    clear h1 h2
    rcases hn with hn | hn
    · have hn' : ¬ 2147483647 < n := by omega
      go_enter Try.func91, Try.ntmps91
      go_wp2_with fail
      go_ret2
      exact ⟨rfl, Mod.refl _ _⟩
    · have hn' : ¬ n < 0 := by omega
      go_enter Try.func91, Try.ntmps91
      go_wp2_with fail
      go_ret2
      exact ⟨rfl, Mod.refl _ _⟩
  · have h1 : encNum n = beBytes 4 n.toNat := by unfold encNum; rw [if_neg hn]
    have h2 : okNum n = true := by unfold okNum; simp; omega
    rw [h1, h2]
    clear h1 h2
    obtain ⟨k, rfl⟩ := Int.eq_ofNat_of_zero_le (show 0 ≤ n by omega)
    rw [Int.toNat_natCast]
    have hk : k ≤ 2147483647 := by omega
    clear hn
    have HC := Lib.hid (refOctets_any k 4 w (by omega) (by omega))
    go_enter Try.func91, Try.ntmps91
    go_wp2_with fail
    refine HC.out.mono ?_
    rintro r w1 ⟨rfl, hm⟩
    have HM := Lib.hid hm
    clear hm
    go_wp2_with fail
    go_ret2
    exact ⟨rfl, HM.out⟩

theorem encNum_len (n : Int) : (encNum n).length ≤ 4 := by
  unfold encNum
  split <;> simp [beBytes_len]
theorem encText_len (t : List UInt8) : (encText t).length ≤ 4 + t.length := by
  have := encNum_len t.length
  simp [encText]; omega

end Go.Proofs.Ytjmehamkpmimkaa
