/- ref01.Rest. -/
import Derived.Test.YtpjpmlhnhcmacaaBase
namespace Go.Proofs.Ytpjpmlhnhcmacaa
open Go.RowKit

theorem tmod_sm (a n : Int) (hn : 0 < n) : -n < a.tmod n ∧ a.tmod n < n := by
  have h1 := Int.tmod_lt_of_pos a hn
  have h2 := Int.lt_tmod_of_pos a hn
  omega
theorem tmod_rst (a n : Int) : (a.tmod n + n) % n = a % n := by
  rw [Int.add_emod_right, Int.tmod_def, Int.sub_mul_emod_self_left]

set_option maxHeartbeats 800000 in
theorem rest01_any (a n : Int) (w : World) (hn : 0 < n) (hn' : n ≤ 1000000) :
    Calls Try.prog 7 #[.int .i64 a, .int .i64 n] w fun e w' => e = .returned (.int .i64 (a % n)) ∧ w = w' := by
  have h := tmod_sm a n hn
  have h1 := h.1
  have h2 := h.2
  clear h
  have hz : (n == 0) = false := by simp; omega
  go_enter Try.func7, Try.ntmps7
  go_wp2
  go_ret
  exact ⟨ret_int (tmod_rst a n), rfl⟩
end Go.Proofs.Ytpjpmlhnhcmacaa
