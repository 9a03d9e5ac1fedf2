/- The octets' and letters' predicates of name and scan, walked. -/
import Derived.Test.YtpjpmlhnhcmacaaGreatDoorNmP
import Derived.Outline
namespace Go.Proofs.YtpjpmlhnhcmacaaGreatDoor
open Go.RowKit

theorem u8_lt (c : UInt8) : (c.toNat : Int) < 256 := by have := c.toNat_lt; omega

set_option maxHeartbeats 400000 in
set_option maxRecDepth 100000 in
theorem letter_any (c : UInt8) (w : World) : Calls Tryz.prog 154 #[.int .u8 c.toNat] w fun e w' => e = .returned (.bool (letB c)) ∧ w = w' := by
  have h256 := u8_lt c
  go_enter Tryz.func154, Tryz.ntmps154
  go_wp2
  all_goals
    go_ret
    refine ⟨ret_bool ?_, rfl⟩
    rw [Bool.eq_iff_iff]
    simp [letB, smallB, largeB]
    try omega
set_option maxHeartbeats 400000 in
set_option maxRecDepth 100000 in
theorem digit_any (c : UInt8) (w : World) : Calls Tryz.prog 110 #[.int .u8 c.toNat] w fun e w' => e = .returned (.bool (digB c)) ∧ w = w' := by
  have h256 := u8_lt c
  go_enter Tryz.func110, Tryz.ntmps110
  go_wp2
  all_goals
    go_ret
    refine ⟨ret_bool ?_, rfl⟩
    rw [Bool.eq_iff_iff]
    simp [digB]
    try omega
/-- The same of a rune. -/
def smallR (r : Nat) : Bool := decide (97 ≤ r) && decide (r ≤ 122)
def largeR (r : Nat) : Bool := decide (65 ≤ r) && decide (r ≤ 90)
def digR (r : Nat) : Bool := decide (48 ≤ r) && decide (r ≤ 57)

set_option maxHeartbeats 400000 in
set_option maxRecDepth 100000 in
theorem nmSmall_any (r : Nat) (hr : r ≤ 2147483647) (w : World) : Calls Tryz.prog 150 #[.int .i32 r] w fun e w' => e = .returned (.bool (smallR r)) ∧ w = w' := by
  go_enter Tryz.func150, Tryz.ntmps150
  go_wp2
  all_goals
    go_ret
    refine ⟨ret_bool ?_, rfl⟩
    rw [Bool.eq_iff_iff]
    simp [smallR]
    try omega
set_option maxHeartbeats 400000 in
set_option maxRecDepth 100000 in
theorem nmLarge_any (r : Nat) (hr : r ≤ 2147483647) (w : World) : Calls Tryz.prog 99 #[.int .i32 r] w fun e w' => e = .returned (.bool (largeR r)) ∧ w = w' := by
  go_enter Tryz.func99, Tryz.ntmps99
  go_wp2
  all_goals
    go_ret
    refine ⟨ret_bool ?_, rfl⟩
    rw [Bool.eq_iff_iff]
    simp [largeR]
    try omega
set_option maxHeartbeats 400000 in
set_option maxRecDepth 100000 in
theorem nmDigit_any (r : Nat) (hr : r ≤ 2147483647) (w : World) : Calls Tryz.prog 151 #[.int .i32 r] w fun e w' => e = .returned (.bool (digR r)) ∧ w = w' := by
  go_enter Tryz.func151, Tryz.ntmps151
  go_wp2
  all_goals
    go_ret
    refine ⟨ret_bool ?_, rfl⟩
    rw [Bool.eq_iff_iff]
    simp [digR]
    try omega
end Go.Proofs.YtpjpmlhnhcmacaaGreatDoor
