/- The example of the laws of layer 4; the law JournalRooms. -/
import Derived.Test.YtjmehamkpmimkaaJrnR
namespace Go.Proofs.Ytjmehamkpmimkaa
open Go.RowKit

/-- A new disk of n sectors. -/
def newS (n : Nat) : DSt := ⟨List.replicate (64 * n) 0, [], -1⟩
theorem newS_sized {n : Nat} (h4 : 4 ≤ n) (hn : n ≤ 65536) : Sized (jA n) (64 * n) (newS n) := by
  have hl : (newS n).S.length = 64 * n := by simp [newS]
  have hs : (newS n).secs = n := by unfold DSt.secs; rw [hl]; omega
  exact ⟨hl, by unfold jA; omega, by unfold jA; omega, by rw [hs], by omega, by omega⟩

theorem Stood.to_put {a N : Nat} {s : DSt} {X t : List UInt8} {r : DSt × Int} (hz : Sized a N s) (h : Stood a N X r) (hl : r.1.left = -1) (ht : t.length + 12 ≤ 64 * a) : Stood a N (jArea a t) (jPut t r.1) := by
  rcases put_safe (hz.to h.2.2.1) ht h.2.1 h.2.2.2.1 h.2.2.2.2 with h1 | ⟨_, h2⟩
  · exact h1
  · exact absurd hl h2

set_option maxHeartbeats 3200000 in
set_option maxRecDepth 100000 in
theorem awake4_any (w : World) : Calls Try.prog 9 #[] w fun r w' => r = .returned (.bool true) ∧ Mod Nil w w' := by
  have hz := newS_sized (n := 10) (by omega) (by omega)
  have hA : jA 10 = 4 := by decide
  rw [hA] at hz
  obtain ⟨hf1, hf2⟩ := format_stood (t := [97]) hz (by simp) rfl rfl
  have hp := hf1.to_put (t := [98, 99]) hz hf2 (by simp)
  have hg := hp.get (hz.to hf1.2.2.1) (by simp)
  have HR := Lib.hid (show jRoom 10 = 244 by decide)
  have HN := Lib.hid (dskNew_ok 10 w (by omega) (by omega))
  rw [show (⟨List.replicate (64 * 10) 0, [], -1⟩ : DSt) = newS 10 from rfl] at HN
  obtain ⟨s0, hs0⟩ : ∃ s0, s0 = newS 10 := ⟨_, rfl⟩
  rw [← hs0] at hf1 hf2 hp hg HN
  have hw0 : s0.ws.length ≤ 400000 ∧ s0.left ≤ 9223372036854775807 := by rw [hs0]; simp [newS]
  have HW0 := Lib.hid hw0
  have HF1 := Lib.hid hf1
  have HF2 := Lib.hid hf2
  have HP := Lib.hid hp
  have HG := Lib.hid hg
  clear hz hA hf1 hf2 hp hg hs0 hw0
  have kc := fun (w : World) (C : Array Value) (n c : Nat) => Lib.run_convert_bytes_const (P := Try.prog) w 36 5 C n c Try.underlying36 Try.underlying5
  go_enter Try.func9, Try.ntmps9
  go_wp2_with fail
  refine (Room_any 10 _).mono ?_
  rintro r w1 ⟨rfl, rfl⟩
  rw [HR.out]
  go_wp2_with fail
  refine HN.out.mono ?_
  rintro r w1 ⟨g, F, rfl, hd1, hm1⟩
  have HD1 := Lib.hid hd1
  have HM1 := Lib.hid hm1
  clear hd1 hm1
  go_wp2_with fail
  have hM2 : Mod Nil w1 (w1.alloc (.cells #[.int .u8 97] 5 (1, 2))) := (Mod.refl Nil w1).alloc _
  refine (jformat_any w.heap.size g F s0 (some ⟨w1.heap.size, 0, none⟩) 1 1 [97] _ (HD1.out.keep0 hM2) (by have := HM1.out.size; simp; omega) rfl (Rd.cells w1 #[.int .u8 97] 5 (1, 2) rfl) HW0.out.1 HW0.out.2).mono ?_
  rintro r w2 ⟨rfl, F2, hd2, hm2, hF2⟩
  obtain ⟨s1, hs1⟩ : ∃ s1, s1 = (jFormat [97] s0).1 := ⟨_, rfl⟩
  rw [HF1.out.1]
  rw [← hs1] at hd2
  have HS1 := Lib.hid hs1
  have HD2 := Lib.hid hd2
  have HM2 := Lib.hid ((HM1.out.trans hM2).disk (HD1.out.keep0 hM2) hm2 (Nat.le_refl _))
  clear hs1 hd2 hm2 hF2 hM2
  go_wp2_with fail
  have hM3 : Mod Nil w2 (w2.alloc (.cells #[.int .u8 98, .int .u8 99] 5 (2, 3))) := (Mod.refl Nil w2).alloc _
  have hw1 : s1.ws = [] := by rw [HS1.out]; exact HF1.out.2.1
  have hl1 : s1.left = -1 := by rw [HS1.out]; exact HF2.out
  refine (jput_any w.heap.size g F2 s1 (some ⟨w2.heap.size, 0, none⟩) 2 2 [98, 99] _ (HD2.out.keep0 hM3) (by have := HM2.out.size; simp; omega) rfl (Rd.cells w2 #[.int .u8 98, .int .u8 99] 5 (2, 3) rfl) (by rw [hw1]; simp) (by omega)).mono ?_
  rintro r w3 ⟨rfl, F3, hd3, hm3, hF3⟩
  rw [← HS1.out] at HP HG
  obtain ⟨s2, hs2⟩ : ∃ s2, s2 = (jPut [98, 99] s1).1 := ⟨_, rfl⟩
  rw [HP.out.1]
  rw [← hs2] at hd3 HG
  have hw2 : s2.ws = [] := by rw [hs2]; exact HP.out.2.1
  have HW2 := Lib.hid hw2
  have HD3 := Lib.hid hd3
  have HM3 := Lib.hid ((HM2.out.trans hM3).disk (HD2.out.keep0 hM3) hm3 (Nat.le_refl _))
  clear hs2 hd3 hm3 hF3 hM3 hw1 hl1 hw2
  go_wp2_with fail
  refine (jget_any w.heap.size g F3 s2 _ HD3.out (by rw [HW2.out]; simp)).mono ?_
  rw [HG.out]
  rintro r w4 ⟨A4, n4, c4, rfl, ho4, hm4⟩
  have hn4 : n4 = 2 := by have := ho4.1; simpa using this.symm
  subst hn4
  have k4 := conv_bytes (l := [98, 99]) (n := 2) (Rd.of_own ho4) rfl c4
  have HM4 := Lib.hid (HM3.out.trans hm4)
  have hb : ((str [98, 99]).toList == [98, 99]) = true := by rw [ByteArray.toList_eq, str_list]; rfl
  clear ho4 hm4
  go_wp2_with fail
  go_ret
  exact ⟨rfl, HM4.out⟩

theorem refRoom4_any (x : Int) (w : World) :
    Calls Try.prog 11 #[.int .i64 x] w fun r w' => r = .returned (.int .i64 (jRoom x)) ∧ w = w' := by
  by_cases h1 : x < 1
  · have HR := Lib.hid (show jRoom x = -1 by unfold jRoom; rw [if_pos (.inl h1)])
    go_enter Try.func11, Try.ntmps11
    go_wp2_with fail
    go_ret
    exact ⟨ret_int HR.out.symm, rfl⟩
  by_cases h2 : 65536 < x
  · have HR := Lib.hid (show jRoom x = -1 by unfold jRoom; rw [if_pos (.inr h2)])
    go_enter Try.func11, Try.ntmps11
    go_wp2_with fail
    go_ret
    exact ⟨ret_int HR.out.symm, rfl⟩
  obtain ⟨M, rfl⟩ := Int.eq_ofNat_of_zero_le (show 0 ≤ x by omega)
  have hM1 : 1 ≤ M := by omega
  have hM2 : M ≤ 65536 := by omega
  have hj : jA M ≤ 32767 := by unfold jA; omega
  have ht : Int.tdiv ((M : Int) - 2) 2 = ((jA M : Nat) : Int) := by
    unfold jA
    rcases Nat.lt_or_ge M 2 with h | h
    · obtain rfl : M = 1 := by omega
      rfl
    · rw [Int.tdiv_eq_ediv_of_nonneg (by omega)]
      omega
  by_cases h4 : M < 4
  · have HR := Lib.hid (show jRoom M = -1 by unfold jRoom; rw [if_neg (by omega), if_pos (by omega)])
    have hj0 : jA M = 0 := by unfold jA; omega
    rw [hj0] at ht
    clear hj0
    go_enter Try.func11, Try.ntmps11
    go_wp2_with fail
    go_ret
    exact ⟨ret_int HR.out.symm, rfl⟩
  · have HR := Lib.hid (show jRoom M = (jA M : Nat) * 64 - 12 by unfold jRoom jA; rw [if_neg (by omega), if_neg (by omega)]; omega)
    have hj0 : 1 ≤ jA M := by unfold jA; omega
    obtain ⟨a, ha⟩ : ∃ a, a = jA M := ⟨_, rfl⟩
    rw [← ha] at HR hj hj0 ht
    clear ha
    go_enter Try.func11, Try.ntmps11
    go_wp2_with fail
    go_ret
    exact ⟨ret_int HR.out.symm, rfl⟩

set_option maxRecDepth 100000 in
theorem journalRooms_walk (x : Int) (w : World) :
    Calls Try.prog 3 #[.int .i64 x] w fun r w' => r = .returned (.bool true) ∧ Mod Nil w w' := by
  go_enter Try.func3, Try.ntmps3
  go_wp2_with fail
  refine (awake4_any _).mono ?_
  rintro r w1 ⟨rfl, hm1⟩
  have HM1 := Lib.hid hm1
  clear hm1
  go_wp2_with fail
  refine (Room_any x _).mono ?_
  rintro r w2 ⟨rfl, rfl⟩
  go_wp2_with fail
  refine (refRoom4_any x _).mono ?_
  rintro r w2 ⟨rfl, rfl⟩
  go_wp2_with fail
  go_ret
  exact ⟨rfl, HM1.out⟩

end Go.Proofs.Ytjmehamkpmimkaa
