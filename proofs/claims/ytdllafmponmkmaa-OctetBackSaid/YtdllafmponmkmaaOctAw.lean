/- The example of the laws of layer 1. -/
import Derived.Test.YtdllafmponmkmaaOctY
namespace Go.Proofs.Ytdllafmponmkmaa
open Go.RowKit

theorem Mod.fresh {B : Nat} {a b : World} (h : Mod (fun k => B ≤ k) a b) (hB : a.heap.size ≤ B) : Mod Nil a b := h.mono fun i hi hk => by omega

theorem wr_new (w : World) : WrAt w.heap.size (w.alloc (.cells #[.slice none 0 0, .int .i64 0] 34)) w.heap.size (.slice none 0 0) ([], 0) :=
  ⟨Blk.new _ _ _, World.ownsRow_nil _ _ _ _, Nat.le_refl _⟩

theorem awake1_example : wText [97, 98] (wNum 258 ([], 0)) = ([0, 0, 1, 2, 0, 0, 0, 2, 97, 98], 0) := by decide +kernel

set_option maxHeartbeats 1600000 in
set_option maxRecDepth 100000 in
theorem awake1_any (w : World) : Calls Try.prog 20 #[] w fun r w' => r = .returned (.bool true) ∧ Mod Nil w w' := by
  have HW := Lib.hid (wr_new w)
  go_enter Try.func20, Try.ntmps20
  go_wp2_with fail
  refine (wnum_any w.heap.size w.heap.size _ ([], 0) 258 _ HW.out (by simp) (by simp)).mono ?_
  rintro r w1 ⟨rfl, v1, hw1, hm1, _⟩
  have hm01 : Mod Nil w w1 := ((Mod.refl Nil w).alloc _).trans' hm1 (fun _ _ h => h) (fun i hi hf => by have := HW.out.low i hf; omega)
  have HW1 := Lib.hid hw1
  have HM1 := Lib.hid hm01
  clear hw1 hm1 hm01
  go_wp2_with fail
  refine (wtext_any w.heap.size w.heap.size v1 (wNum 258 ([], 0)) _ _ HW1.out HM1.out.size (by decide +kernel)).mono ?_
  rintro r w2 ⟨rfl, v2, hw2, hm2, _⟩
  have hm02 : Mod Nil w w2 := HM1.out.trans' hm2 (fun _ _ h => h) (fun i hi hf => by have := HW1.out.low i hf; omega)
  have e : wText (⟨#[97, 98]⟩ : ByteArray).data.toList (wNum 258 ([], 0)) = ([0, 0, 1, 2, 0, 0, 0, 2, 97, 98], 0) := awake1_example
  rw [e] at hw2
  have HW2 := Lib.hid hw2
  have HM2 := Lib.hid hm02
  clear hw2 hm2 hm02 e
  go_wp2_with fail
  refine (wbytes_any w.heap.size w.heap.size v2 ([0, 0, 1, 2, 0, 0, 0, 2, 97, 98], 0) _ HW2.out (by simp)).mono ?_
  rintro r w3 ⟨v3, rfl, hown, hm3⟩
  have hw3 : WrAt w.heap.size w3 w.heap.size v2 ([0, 0, 1, 2, 0, 0, 0, 2, 97, 98], 0) := WriterAt.keep HW2.out hm3 (fun _ _ => id)
  obtain ⟨A3, c3, rfl, _, _, hl3, hr3⟩ := IsSl.of_own hown
  have kb := conv_bytes (l := [0, 0, 1, 2, 0, 0, 0, 2, 97, 98]) (n := 10) hr3 rfl c3
  have HW3 := Lib.hid hw3
  have HM3 := Lib.hid (HM2.out.trans hm3)
  have hb : ((str [0, 0, 1, 2, 0, 0, 0, 2, 97, 98]).toList == [0, 0, 1, 2, 0, 0, 0, 2, 97, 98]) = true := by rw [ByteArray.toList_eq, str_list]; rfl
  clear hm3 hw3 hown hl3 hr3
  go_wp2_with fail
  refine (werr_any w.heap.size w.heap.size v2 ([0, 0, 1, 2, 0, 0, 0, 2, 97, 98], 0) _ HW3.out).mono ?_
  rintro r w4 ⟨rfl, rfl⟩
  go_wp2_with fail
  go_ret
  exact ⟨rfl, HM3.out⟩

end Go.Proofs.Ytdllafmponmkmaa
