/- Parts of the proof of CodeRunsUpto, joined: Rmz Rhp Rhk. -/
import Derived.Test.YtefloadjolpgbaaDoorCodeRunsUptoj16
namespace Go.Proofs.YtefloadjolpgbaaDoor
open Go.RowKit

set_option maxHeartbeats 3200000 in
set_option maxRecDepth 100000 in
theorem rMay_any {c : CodeT} {v : CodeV} {ar : List CodeT} {rows : List (List Value)} {A5 : Option Addr} {n5 c5 : Nat} (x : InsT) (w : World) (hk : KF w c v ar rows A5 n5 c5) (hx : x.ok) :
    Calls Tryd.prog 20 #[.agg (codeArr c v), .slice A5 n5 c5, .agg #[.int .i64 x.op, .int .i64 x.a, .int .i64 x.b]] w fun e w' => RMay c ar x w e w' := by
  have hbk : Blk (w.alloc (.cells (codeArr c v) 26)) w.heap.size 26 (codeArr c v) := Blk.new _ _ _
  have hm1 := (Mod.refl Nil w).alloc (.cells (codeArr c v) 26)
  have hbi : Blk ((w.alloc (.cells (codeArr c v) 26)).alloc (.cells #[.int .i64 x.op, .int .i64 x.a, .int .i64 x.b] 33)) (w.alloc (.cells (codeArr c v) 26)).heap.size 33 #[.int .i64 x.op, .int .i64 x.a, .int .i64 x.b] := Blk.new _ _ _
  have hm2 := hm1.alloc (.cells #[.int .i64 x.op, .int .i64 x.a, .int .i64 x.b] 33)
  have hbk2 := hbk.keep ((Mod.refl Nil (w.alloc (.cells (codeArr c v) 26))).alloc (.cells #[.int .i64 x.op, .int .i64 x.a, .int .i64 x.b] 33)) id
  obtain ⟨g5, hg5⟩ : ∃ g5, g5 = (w.alloc (.cells (codeArr c v) 26)).heap.size := ⟨_, rfl⟩
  have hg5' : w.heap.size + 1 = g5 := by rw [hg5]; simp
  rw [← hg5] at hbi
  have HB := Lib.hid hbk2
  have HI := Lib.hid hbi
  have HM := Lib.hid hm2
  have HK := Lib.hid hk
  have HX := Lib.hid hx
  clear hbk hm1 hbi hm2 hbk2 hk hx hg5
  obtain ⟨o, xa, xb⟩ := x
  simp only at HB HI HM HX ⊢
  refine sl_enter (n := 159) (fn := Tryd.f20) (c := rmyBody) Tryd.func20 rfl rfl (by simp) fun ac HF => ?_
  conv => arg 2; whnf
  refine wp_seq (wp_region_lit ?_)
  refine sl_op HF rfl rfl (by decide) ?_; intro K hK; have e0 := HF.see 0 rfl; go_wp2_with fail; clear e0 HF; intro _ HF
  refine sl_op HF rfl rfl (by decide) ?_; intro K hK; have e2 := HF.see 2 rfl; go_wp2_with fail; clear e2 HF; intro _ HF
  refine sl_const HF rfl rfl (.inr rfl) (by decide) ?_; clear HF; intro _ HF
  generalize hW2 : (w.alloc (.cells (codeArr c v) 26)).alloc (.cells #[.int .i64 o, .int .i64 xa, .int .i64 xb] 33) = w2 at *
  generalize w.heap.size = g3 at *
  clear hW2
  refine sl_nil (wp_seq (wp_seq (wp_region_lit ?_)))
  have i0 := HI.out.cell 0
  simp only [List.getElem?_toArray, List.getElem?_cons_zero] at i0
  refine sl_op HF rfl rfl (by decide) ?_; intro K hK; have e5 := HF.see 5 rfl; go_wp2_with fail; clear e5 HF; intro _ HF
  refine sl_op HF rfl rfl (by decide) ?_; intro K hK; have e9 := HF.see 9 rfl; go_wp2_with fail; clear e9 HF; intro _ HF
  have HF2 := HF.keep [1, 3, 5, 10]
  simp only [pick, look, argL] at HF2
  clear HF
  have HF := HF2
  clear HF2 i0
  refine sl_nil (wp_block (wp_seq (wp_region_lit ?_)))
  by_cases hpl : o ≠ 0 ∧ o ≠ 1 ∧ o ≠ 6 ∧ o ≠ 7 ∧ o ≠ 8 ∧ o ≠ 9 ∧ o ≠ 10 ∧ o ≠ 11 ∧ o ≠ 12 ∧ o ≠ 13 ∧ o ≠ 16
  · obtain ⟨n0, n1, n6, n7, n8, n9, n10, n11, n12, n13, n16⟩ := hpl
    have q0 : (o == 0) = false := by simp [n0]
    have q1 : (o == 1) = false := by simp [n1]
    have q6 : (o == 6) = false := by simp [n6]
    have q7 : (o == 7) = false := by simp [n7]
    have q8 : (o == 8) = false := by simp [n8]
    have q9 : (o == 9) = false := by simp [n9]
    have q10 : (o == 10) = false := by simp [n10]
    have q11 : (o == 11) = false := by simp [n11]
    have q12 : (o == 12) = false := by simp [n12]
    have q13 : (o == 13) = false := by simp [n13]
    have q16 : (o == 16) = false := by simp [n16]
    have HR := Lib.hid (show mayF c ar ⟨o, xa, xb⟩ = (decide (2 ≤ o) && decide (o ≤ 19)) by rw [mayF_plain n6 n7]; simp only [mayL, n0, n1, n8, n9, n10, n11, n12, n13, n16, or_self, if_false])
    have HN := Lib.hid (And.intro n0 n1)
    clear n0 n1 n6 n7 n8 n9 n10 n11 n12 n13 n16
    refine sl_op HF rfl rfl (by decide) ?_; intro K hK; have e10 := HF.see 10 rfl; go_wp2_with fail; clear e10 HF; intro _ HF
    refine sl_move HF rfl rfl (.inr rfl) (by decide) rfl ?_; clear HF; intro _ HF
    refine sl_nil (wp_cond_false (HF.at 11 rfl) (wp_seq (wp_region_lit ?_)))
    refine sl_op HF rfl rfl (by decide) ?_; intro K hK; have e10 := HF.see 10 rfl; go_wp2_with fail; clear e10 HF; intro _ HF
    refine sl_move HF rfl rfl (.inr rfl) (by decide) rfl ?_; clear HF; intro _ HF
    refine sl_nil (wp_cond_false (HF.at 29 rfl) (wp_seq (wp_seq (wp_region_lit ?_))))
    refine sl_op HF rfl rfl (by decide) ?_; intro K hK; have e10 := HF.see 10 rfl; go_wp2_with fail; clear e10 HF; intro _ HF
    refine sl_move HF rfl rfl (.inr rfl) (by decide) rfl ?_; clear HF; intro _ HF
    refine sl_nil (wp_cond_false (HF.at 45 rfl) (wp_region_lit ?_))
    refine sl_op HF rfl rfl (by decide) ?_; intro K hK; have e10 := HF.see 10 rfl; go_wp2_with fail; clear e10 HF; intro _ HF
    refine sl_move HF rfl rfl (.inr rfl) (by decide) rfl ?_; clear HF; intro _ HF
    refine sl_nil (wp_cond_false (HF.at 45 rfl) (wp_seq (wp_seq (wp_region_lit ?_))))
    refine sl_op HF rfl rfl (by decide) ?_; intro K hK; have e10 := HF.see 10 rfl; go_wp2_with fail; clear e10 HF; intro _ HF
    refine sl_move HF rfl rfl (.inr rfl) (by decide) rfl ?_; clear HF; intro _ HF
    refine sl_nil (wp_cond_false (HF.at 81 rfl) (wp_region_lit ?_))
    refine sl_op HF rfl rfl (by decide) ?_; intro K hK; have e10 := HF.see 10 rfl; go_wp2_with fail; clear e10 HF; intro _ HF
    refine sl_move HF rfl rfl (.inr rfl) (by decide) rfl ?_; clear HF; intro _ HF
    refine sl_nil (wp_cond_false (HF.at 81 rfl) (wp_seq (wp_seq (wp_region_lit ?_))))
    refine sl_op HF rfl rfl (by decide) ?_; intro K hK; have e10 := HF.see 10 rfl; go_wp2_with fail; clear e10 HF; intro _ HF
    refine sl_move HF rfl rfl (.inr rfl) (by decide) rfl ?_; clear HF; intro _ HF
    refine sl_nil (wp_cond_false (HF.at 98 rfl) (wp_region_lit ?_))
    refine sl_op HF rfl rfl (by decide) ?_; intro K hK; have e10 := HF.see 10 rfl; go_wp2_with fail; clear e10 HF; intro _ HF
    refine sl_move HF rfl rfl (.inr rfl) (by decide) rfl ?_; clear HF; intro _ HF
    refine sl_nil (wp_cond_false (HF.at 98 rfl) (wp_seq (wp_region_lit ?_)))
    refine sl_op HF rfl rfl (by decide) ?_; intro K hK; have e10 := HF.see 10 rfl; go_wp2_with fail; clear e10 HF; intro _ HF
    refine sl_move HF rfl rfl (.inr rfl) (by decide) rfl ?_; clear HF; intro _ HF
    refine sl_nil (wp_cond_false (HF.at 123 rfl) (wp_seq (wp_region_lit ?_)))
    refine sl_op HF rfl rfl (by decide) ?_; intro K hK; have e10 := HF.see 10 rfl; go_wp2_with fail; clear e10 HF; intro _ HF
    refine sl_move HF rfl rfl (.inr rfl) (by decide) rfl ?_; clear HF; intro _ HF
    refine sl_nil (wp_cond_false (HF.at 136 rfl) (wp_seq (wp_region_lit ?_)))
    refine sl_op HF rfl rfl (by decide) ?_; intro K hK; have e10 := HF.see 10 rfl; go_wp2_with fail; clear e10 HF; intro _ HF
    refine sl_move HF rfl rfl (.inr rfl) (by decide) rfl ?_; clear HF; intro _ HF
    refine sl_nil (wp_cond_false (HF.at 146 rfl) (wp_skip ?_))
    dsimp only [Exit.inBlock, Exit.then]
    have HF2 := HF.keep [5]
    simp only [pick, look] at HF2
    clear HF
    have HF := HF2
    clear HF2
    refine wp_seq (wp_region_lit ?_)
    have i0 := HI.out.cell 0
    simp only [List.getElem?_toArray, List.getElem?_cons_zero] at i0
    rcases h0 : decide (0 ≤ o) with _ | _
    · skip
      refine sl_op HF rfl rfl (by decide) ?_; intro K hK; have e5 := HF.see 5 rfl; go_wp2_with fail; clear e5 HF; intro _ HF
      refine sl_op HF rfl rfl (by decide) ?_; intro K hK; have e151 := HF.see 151 rfl; go_wp2_with fail; clear e151 HF; intro _ HF
      refine sl_op HF rfl rfl (by decide) ?_; intro K hK; have e152 := HF.see 152 rfl; go_wp2_with fail; clear e152 HF; intro _ HF
      refine sl_move HF rfl rfl (.inl rfl) (by decide) rfl ?_; clear HF; intro _ HF
      refine sl_skip HF rfl rfl rfl rfl (by decide) ?_; clear HF; intro _ HF
      refine sl_skip HF rfl rfl rfl rfl (by decide) ?_; clear HF; intro _ HF
      refine sl_skip HF rfl rfl rfl rfl (by decide) ?_; clear HF; intro _ HF
      refine sl_op HF rfl rfl (by decide) ?_; intro K hK; have e154 := HF.see 154 rfl; have e157 := HF.see 157 rfl; go_wp2_with fail; clear e154 e157 HF; intro _ HF
      refine sl_move HF rfl rfl (.inr rfl) (by decide) rfl ?_; clear HF; intro _ HF
      exact sl_nil (wp_ret (sl_ret1 HF rfl rfl ⟨false, rfl, (fun h => by cases h), HM.out⟩))
    · have HH := Lib.hid h0
      refine sl_op HF rfl rfl (by decide) ?_; intro K hK; have e5 := HF.see 5 rfl; go_wp2_with fail; clear e5 HF; intro _ HF
      refine sl_op HF rfl rfl (by decide) ?_; intro K hK; have e151 := HF.see 151 rfl; go_wp2_with fail; clear e151 HF; intro _ HF
      refine sl_op HF rfl rfl (by decide) ?_; intro K hK; have e152 := HF.see 152 rfl; go_wp2_with fail; clear e152 HF; intro _ HF
      refine sl_move HF rfl rfl (.inl rfl) (by decide) rfl ?_; clear HF; intro _ HF
      refine sl_want HF rfl rfl rfl rfl (by decide) ?_; intro K hK; have e5 := HF.see 5 rfl; go_wp2_with fail; clear e5 HF; intro _ HF
      refine sl_want HF rfl rfl rfl rfl (by decide) ?_; intro K hK; have e155 := HF.see 155 rfl; go_wp2_with fail; clear e155 HF; intro _ HF
      refine sl_want HF rfl rfl rfl rfl (by decide) ?_; intro K hK; have e156 := HF.see 156 rfl; go_wp2_with fail; clear e156 HF; intro _ HF
      refine sl_op HF rfl rfl (by decide) ?_; intro K hK; have e154 := HF.see 154 rfl; have e157 := HF.see 157 rfl; go_wp2_with fail; clear e154 e157 HF; intro _ HF
      refine sl_move HF rfl rfl (.inr rfl) (by decide) rfl ?_; clear HF; intro _ HF
      refine sl_nil (wp_ret (sl_ret1 HF rfl rfl ⟨_, rfl, fun h => ?_, HM.out⟩))
      have h0' : 0 ≤ o := by simpa using HH.out
      have := HN.out
      have h1' : o ≤ 19 := by simpa using h
      rw [HR.out, Bool.and_eq_true]
      exact ⟨by simp; omega, by simpa using h⟩
  · obtain rfl | rfl | rfl | rfl | rfl | rfl | rfl | rfl | rfl | rfl | rfl : o = 0 ∨ o = 1 ∨ o = 6 ∨ o = 7 ∨ o = 8 ∨ o = 9 ∨ o = 10 ∨ o = 11 ∨ o = 12 ∨ o = 13 ∨ o = 16 := by omega
    · clear hpl
      refine sl_op HF rfl rfl (by decide) ?_; intro K hK; have e10 := HF.see 10 rfl; go_wp2_with fail; clear e10 HF; intro _ HF
      refine sl_move HF rfl rfl (.inr rfl) (by decide) rfl ?_; clear HF; intro _ HF
      refine sl_nil (wp_cond_true (HF.at 11 rfl) ?_)
      have HF2 := HF.keep [1, 3, 5]
      simp only [pick, look] at HF2
      refine rm_lit HF2 HK.out HM.out HB.out HI.out HX.out rfl fun a' w' r HF hr hm => ?_
      dsimp only [Exit.then, Exit.inBlock]
      exact sl_ret1 HF rfl rfl ⟨r, rfl, hr, hm⟩
    · clear hpl
      refine sl_op HF rfl rfl (by decide) ?_; intro K hK; have e10 := HF.see 10 rfl; go_wp2_with fail; clear e10 HF; intro _ HF
      refine sl_move HF rfl rfl (.inr rfl) (by decide) rfl ?_; clear HF; intro _ HF
      refine sl_nil (wp_cond_false (HF.at 11 rfl) (wp_seq (wp_region_lit ?_)))
      refine sl_op HF rfl rfl (by decide) ?_; intro K hK; have e10 := HF.see 10 rfl; go_wp2_with fail; clear e10 HF; intro _ HF
      refine sl_move HF rfl rfl (.inr rfl) (by decide) rfl ?_; clear HF; intro _ HF
      refine sl_nil (wp_cond_true (HF.at 29 rfl) ?_)
      have HF2 := HF.keep [1, 3, 5]
      simp only [pick, look] at HF2
      refine rm_class HF2 HK.out HM.out HB.out HI.out HX.out rfl fun a' w' r HF hr hm => ?_
      dsimp only [Exit.then, Exit.inBlock]
      exact sl_ret1 HF rfl rfl ⟨r, rfl, hr, hm⟩
    · clear hpl
      refine sl_op HF rfl rfl (by decide) ?_; intro K hK; have e10 := HF.see 10 rfl; go_wp2_with fail; clear e10 HF; intro _ HF
      refine sl_move HF rfl rfl (.inr rfl) (by decide) rfl ?_; clear HF; intro _ HF
      refine sl_nil (wp_cond_false (HF.at 11 rfl) (wp_seq (wp_region_lit ?_)))
      refine sl_op HF rfl rfl (by decide) ?_; intro K hK; have e10 := HF.see 10 rfl; go_wp2_with fail; clear e10 HF; intro _ HF
      refine sl_move HF rfl rfl (.inr rfl) (by decide) rfl ?_; clear HF; intro _ HF
      refine sl_nil (wp_cond_false (HF.at 29 rfl) (wp_seq (wp_seq (wp_region_lit ?_))))
      refine sl_op HF rfl rfl (by decide) ?_; intro K hK; have e10 := HF.see 10 rfl; go_wp2_with fail; clear e10 HF; intro _ HF
      refine sl_move HF rfl rfl (.inr rfl) (by decide) rfl ?_; clear HF; intro _ HF
      refine sl_nil (wp_cond_true (HF.at 45 rfl) (wp_skip (sl_then (wp_cond_true (HF.at 45 rfl) ?_))))
      have HF2 := HF.keep [1, 3, 5]
      simp only [pick, look] at HF2
      refine rm_vars HF2 HK.out HM.out HB.out HI.out HX.out (.inl rfl) fun a' w' r HF hr hm => ?_
      dsimp only [Exit.then, Exit.inBlock]
      exact sl_ret1 HF rfl rfl ⟨r, rfl, hr, hm⟩
    · clear hpl
      refine sl_op HF rfl rfl (by decide) ?_; intro K hK; have e10 := HF.see 10 rfl; go_wp2_with fail; clear e10 HF; intro _ HF
      refine sl_move HF rfl rfl (.inr rfl) (by decide) rfl ?_; clear HF; intro _ HF
      refine sl_nil (wp_cond_false (HF.at 11 rfl) (wp_seq (wp_region_lit ?_)))
      refine sl_op HF rfl rfl (by decide) ?_; intro K hK; have e10 := HF.see 10 rfl; go_wp2_with fail; clear e10 HF; intro _ HF
      refine sl_move HF rfl rfl (.inr rfl) (by decide) rfl ?_; clear HF; intro _ HF
      refine sl_nil (wp_cond_false (HF.at 29 rfl) (wp_seq (wp_seq (wp_region_lit ?_))))
      refine sl_op HF rfl rfl (by decide) ?_; intro K hK; have e10 := HF.see 10 rfl; go_wp2_with fail; clear e10 HF; intro _ HF
      refine sl_move HF rfl rfl (.inr rfl) (by decide) rfl ?_; clear HF; intro _ HF
      refine sl_nil (wp_cond_false (HF.at 45 rfl) (wp_region_lit ?_))
      refine sl_op HF rfl rfl (by decide) ?_; intro K hK; have e10 := HF.see 10 rfl; go_wp2_with fail; clear e10 HF; intro _ HF
      refine sl_move HF rfl rfl (.inr rfl) (by decide) rfl ?_; clear HF; intro _ HF
      refine sl_nil (wp_cond_true (HF.at 45 rfl) ?_)
      have HF2 := HF.keep [1, 3, 5]
      simp only [pick, look] at HF2
      refine rm_vars HF2 HK.out HM.out HB.out HI.out HX.out (.inr rfl) fun a' w' r HF hr hm => ?_
      dsimp only [Exit.then, Exit.inBlock]
      exact sl_ret1 HF rfl rfl ⟨r, rfl, hr, hm⟩
    · clear hpl
      refine sl_op HF rfl rfl (by decide) ?_; intro K hK; have e10 := HF.see 10 rfl; go_wp2_with fail; clear e10 HF; intro _ HF
      refine sl_move HF rfl rfl (.inr rfl) (by decide) rfl ?_; clear HF; intro _ HF
      refine sl_nil (wp_cond_false (HF.at 11 rfl) (wp_seq (wp_region_lit ?_)))
      refine sl_op HF rfl rfl (by decide) ?_; intro K hK; have e10 := HF.see 10 rfl; go_wp2_with fail; clear e10 HF; intro _ HF
      refine sl_move HF rfl rfl (.inr rfl) (by decide) rfl ?_; clear HF; intro _ HF
      refine sl_nil (wp_cond_false (HF.at 29 rfl) (wp_seq (wp_seq (wp_region_lit ?_))))
      refine sl_op HF rfl rfl (by decide) ?_; intro K hK; have e10 := HF.see 10 rfl; go_wp2_with fail; clear e10 HF; intro _ HF
      refine sl_move HF rfl rfl (.inr rfl) (by decide) rfl ?_; clear HF; intro _ HF
      refine sl_nil (wp_cond_false (HF.at 45 rfl) (wp_region_lit ?_))
      refine sl_op HF rfl rfl (by decide) ?_; intro K hK; have e10 := HF.see 10 rfl; go_wp2_with fail; clear e10 HF; intro _ HF
      refine sl_move HF rfl rfl (.inr rfl) (by decide) rfl ?_; clear HF; intro _ HF
      refine sl_nil (wp_cond_false (HF.at 45 rfl) (wp_seq (wp_seq (wp_region_lit ?_))))
      refine sl_op HF rfl rfl (by decide) ?_; intro K hK; have e10 := HF.see 10 rfl; go_wp2_with fail; clear e10 HF; intro _ HF
      refine sl_move HF rfl rfl (.inr rfl) (by decide) rfl ?_; clear HF; intro _ HF
      refine sl_nil (wp_cond_true (HF.at 81 rfl) (wp_skip (sl_then (wp_cond_true (HF.at 81 rfl) ?_))))
      have HF2 := HF.keep [1, 3, 5]
      simp only [pick, look] at HF2
      refine rm_var HF2 HK.out HM.out HB.out HI.out HX.out (.inl rfl) fun a' w' r HF hr hm => ?_
      dsimp only [Exit.then, Exit.inBlock]
      exact sl_ret1 HF rfl rfl ⟨r, rfl, hr, hm⟩
    · clear hpl
      refine sl_op HF rfl rfl (by decide) ?_; intro K hK; have e10 := HF.see 10 rfl; go_wp2_with fail; clear e10 HF; intro _ HF
      refine sl_move HF rfl rfl (.inr rfl) (by decide) rfl ?_; clear HF; intro _ HF
      refine sl_nil (wp_cond_false (HF.at 11 rfl) (wp_seq (wp_region_lit ?_)))
      refine sl_op HF rfl rfl (by decide) ?_; intro K hK; have e10 := HF.see 10 rfl; go_wp2_with fail; clear e10 HF; intro _ HF
      refine sl_move HF rfl rfl (.inr rfl) (by decide) rfl ?_; clear HF; intro _ HF
      refine sl_nil (wp_cond_false (HF.at 29 rfl) (wp_seq (wp_seq (wp_region_lit ?_))))
      refine sl_op HF rfl rfl (by decide) ?_; intro K hK; have e10 := HF.see 10 rfl; go_wp2_with fail; clear e10 HF; intro _ HF
      refine sl_move HF rfl rfl (.inr rfl) (by decide) rfl ?_; clear HF; intro _ HF
      refine sl_nil (wp_cond_false (HF.at 45 rfl) (wp_region_lit ?_))
      refine sl_op HF rfl rfl (by decide) ?_; intro K hK; have e10 := HF.see 10 rfl; go_wp2_with fail; clear e10 HF; intro _ HF
      refine sl_move HF rfl rfl (.inr rfl) (by decide) rfl ?_; clear HF; intro _ HF
      refine sl_nil (wp_cond_false (HF.at 45 rfl) (wp_seq (wp_seq (wp_region_lit ?_))))
      refine sl_op HF rfl rfl (by decide) ?_; intro K hK; have e10 := HF.see 10 rfl; go_wp2_with fail; clear e10 HF; intro _ HF
      refine sl_move HF rfl rfl (.inr rfl) (by decide) rfl ?_; clear HF; intro _ HF
      refine sl_nil (wp_cond_false (HF.at 81 rfl) (wp_region_lit ?_))
      refine sl_op HF rfl rfl (by decide) ?_; intro K hK; have e10 := HF.see 10 rfl; go_wp2_with fail; clear e10 HF; intro _ HF
      refine sl_move HF rfl rfl (.inr rfl) (by decide) rfl ?_; clear HF; intro _ HF
      refine sl_nil (wp_cond_true (HF.at 81 rfl) ?_)
      have HF2 := HF.keep [1, 3, 5]
      simp only [pick, look] at HF2
      refine rm_var HF2 HK.out HM.out HB.out HI.out HX.out (.inr rfl) fun a' w' r HF hr hm => ?_
      dsimp only [Exit.then, Exit.inBlock]
      exact sl_ret1 HF rfl rfl ⟨r, rfl, hr, hm⟩
    · clear hpl
      refine sl_op HF rfl rfl (by decide) ?_; intro K hK; have e10 := HF.see 10 rfl; go_wp2_with fail; clear e10 HF; intro _ HF
      refine sl_move HF rfl rfl (.inr rfl) (by decide) rfl ?_; clear HF; intro _ HF
      refine sl_nil (wp_cond_false (HF.at 11 rfl) (wp_seq (wp_region_lit ?_)))
      refine sl_op HF rfl rfl (by decide) ?_; intro K hK; have e10 := HF.see 10 rfl; go_wp2_with fail; clear e10 HF; intro _ HF
      refine sl_move HF rfl rfl (.inr rfl) (by decide) rfl ?_; clear HF; intro _ HF
      refine sl_nil (wp_cond_false (HF.at 29 rfl) (wp_seq (wp_seq (wp_region_lit ?_))))
      refine sl_op HF rfl rfl (by decide) ?_; intro K hK; have e10 := HF.see 10 rfl; go_wp2_with fail; clear e10 HF; intro _ HF
      refine sl_move HF rfl rfl (.inr rfl) (by decide) rfl ?_; clear HF; intro _ HF
      refine sl_nil (wp_cond_false (HF.at 45 rfl) (wp_region_lit ?_))
      refine sl_op HF rfl rfl (by decide) ?_; intro K hK; have e10 := HF.see 10 rfl; go_wp2_with fail; clear e10 HF; intro _ HF
      refine sl_move HF rfl rfl (.inr rfl) (by decide) rfl ?_; clear HF; intro _ HF
      refine sl_nil (wp_cond_false (HF.at 45 rfl) (wp_seq (wp_seq (wp_region_lit ?_))))
      refine sl_op HF rfl rfl (by decide) ?_; intro K hK; have e10 := HF.see 10 rfl; go_wp2_with fail; clear e10 HF; intro _ HF
      refine sl_move HF rfl rfl (.inr rfl) (by decide) rfl ?_; clear HF; intro _ HF
      refine sl_nil (wp_cond_false (HF.at 81 rfl) (wp_region_lit ?_))
      refine sl_op HF rfl rfl (by decide) ?_; intro K hK; have e10 := HF.see 10 rfl; go_wp2_with fail; clear e10 HF; intro _ HF
      refine sl_move HF rfl rfl (.inr rfl) (by decide) rfl ?_; clear HF; intro _ HF
      refine sl_nil (wp_cond_false (HF.at 81 rfl) (wp_seq (wp_seq (wp_region_lit ?_))))
      refine sl_op HF rfl rfl (by decide) ?_; intro K hK; have e10 := HF.see 10 rfl; go_wp2_with fail; clear e10 HF; intro _ HF
      refine sl_move HF rfl rfl (.inr rfl) (by decide) rfl ?_; clear HF; intro _ HF
      refine sl_nil (wp_cond_true (HF.at 98 rfl) (wp_skip (sl_then (wp_cond_true (HF.at 98 rfl) ?_))))
      have HF2 := HF.keep [1, 3, 5]
      simp only [pick, look] at HF2
      refine rm_send HF2 HK.out HM.out HB.out HI.out HX.out (.inl rfl) fun a' w' r HF hr hm => ?_
      dsimp only [Exit.then, Exit.inBlock]
      exact sl_ret1 HF rfl rfl ⟨r, rfl, hr, hm⟩
    · clear hpl
      refine sl_op HF rfl rfl (by decide) ?_; intro K hK; have e10 := HF.see 10 rfl; go_wp2_with fail; clear e10 HF; intro _ HF
      refine sl_move HF rfl rfl (.inr rfl) (by decide) rfl ?_; clear HF; intro _ HF
      refine sl_nil (wp_cond_false (HF.at 11 rfl) (wp_seq (wp_region_lit ?_)))
      refine sl_op HF rfl rfl (by decide) ?_; intro K hK; have e10 := HF.see 10 rfl; go_wp2_with fail; clear e10 HF; intro _ HF
      refine sl_move HF rfl rfl (.inr rfl) (by decide) rfl ?_; clear HF; intro _ HF
      refine sl_nil (wp_cond_false (HF.at 29 rfl) (wp_seq (wp_seq (wp_region_lit ?_))))
      refine sl_op HF rfl rfl (by decide) ?_; intro K hK; have e10 := HF.see 10 rfl; go_wp2_with fail; clear e10 HF; intro _ HF
      refine sl_move HF rfl rfl (.inr rfl) (by decide) rfl ?_; clear HF; intro _ HF
      refine sl_nil (wp_cond_false (HF.at 45 rfl) (wp_region_lit ?_))
      refine sl_op HF rfl rfl (by decide) ?_; intro K hK; have e10 := HF.see 10 rfl; go_wp2_with fail; clear e10 HF; intro _ HF
      refine sl_move HF rfl rfl (.inr rfl) (by decide) rfl ?_; clear HF; intro _ HF
      refine sl_nil (wp_cond_false (HF.at 45 rfl) (wp_seq (wp_seq (wp_region_lit ?_))))
      refine sl_op HF rfl rfl (by decide) ?_; intro K hK; have e10 := HF.see 10 rfl; go_wp2_with fail; clear e10 HF; intro _ HF
      refine sl_move HF rfl rfl (.inr rfl) (by decide) rfl ?_; clear HF; intro _ HF
      refine sl_nil (wp_cond_false (HF.at 81 rfl) (wp_region_lit ?_))
      refine sl_op HF rfl rfl (by decide) ?_; intro K hK; have e10 := HF.see 10 rfl; go_wp2_with fail; clear e10 HF; intro _ HF
      refine sl_move HF rfl rfl (.inr rfl) (by decide) rfl ?_; clear HF; intro _ HF
      refine sl_nil (wp_cond_false (HF.at 81 rfl) (wp_seq (wp_seq (wp_region_lit ?_))))
      refine sl_op HF rfl rfl (by decide) ?_; intro K hK; have e10 := HF.see 10 rfl; go_wp2_with fail; clear e10 HF; intro _ HF
      refine sl_move HF rfl rfl (.inr rfl) (by decide) rfl ?_; clear HF; intro _ HF
      refine sl_nil (wp_cond_false (HF.at 98 rfl) (wp_region_lit ?_))
      refine sl_op HF rfl rfl (by decide) ?_; intro K hK; have e10 := HF.see 10 rfl; go_wp2_with fail; clear e10 HF; intro _ HF
      refine sl_move HF rfl rfl (.inr rfl) (by decide) rfl ?_; clear HF; intro _ HF
      refine sl_nil (wp_cond_true (HF.at 98 rfl) ?_)
      have HF2 := HF.keep [1, 3, 5]
      simp only [pick, look] at HF2
      refine rm_send HF2 HK.out HM.out HB.out HI.out HX.out (.inr rfl) fun a' w' r HF hr hm => ?_
      dsimp only [Exit.then, Exit.inBlock]
      exact sl_ret1 HF rfl rfl ⟨r, rfl, hr, hm⟩
    · clear hpl
      refine sl_op HF rfl rfl (by decide) ?_; intro K hK; have e10 := HF.see 10 rfl; go_wp2_with fail; clear e10 HF; intro _ HF
      refine sl_move HF rfl rfl (.inr rfl) (by decide) rfl ?_; clear HF; intro _ HF
      refine sl_nil (wp_cond_false (HF.at 11 rfl) (wp_seq (wp_region_lit ?_)))
      refine sl_op HF rfl rfl (by decide) ?_; intro K hK; have e10 := HF.see 10 rfl; go_wp2_with fail; clear e10 HF; intro _ HF
      refine sl_move HF rfl rfl (.inr rfl) (by decide) rfl ?_; clear HF; intro _ HF
      refine sl_nil (wp_cond_false (HF.at 29 rfl) (wp_seq (wp_seq (wp_region_lit ?_))))
      refine sl_op HF rfl rfl (by decide) ?_; intro K hK; have e10 := HF.see 10 rfl; go_wp2_with fail; clear e10 HF; intro _ HF
      refine sl_move HF rfl rfl (.inr rfl) (by decide) rfl ?_; clear HF; intro _ HF
      refine sl_nil (wp_cond_false (HF.at 45 rfl) (wp_region_lit ?_))
      refine sl_op HF rfl rfl (by decide) ?_; intro K hK; have e10 := HF.see 10 rfl; go_wp2_with fail; clear e10 HF; intro _ HF
      refine sl_move HF rfl rfl (.inr rfl) (by decide) rfl ?_; clear HF; intro _ HF
      refine sl_nil (wp_cond_false (HF.at 45 rfl) (wp_seq (wp_seq (wp_region_lit ?_))))
      refine sl_op HF rfl rfl (by decide) ?_; intro K hK; have e10 := HF.see 10 rfl; go_wp2_with fail; clear e10 HF; intro _ HF
      refine sl_move HF rfl rfl (.inr rfl) (by decide) rfl ?_; clear HF; intro _ HF
      refine sl_nil (wp_cond_false (HF.at 81 rfl) (wp_region_lit ?_))
      refine sl_op HF rfl rfl (by decide) ?_; intro K hK; have e10 := HF.see 10 rfl; go_wp2_with fail; clear e10 HF; intro _ HF
      refine sl_move HF rfl rfl (.inr rfl) (by decide) rfl ?_; clear HF; intro _ HF
      refine sl_nil (wp_cond_false (HF.at 81 rfl) (wp_seq (wp_seq (wp_region_lit ?_))))
      refine sl_op HF rfl rfl (by decide) ?_; intro K hK; have e10 := HF.see 10 rfl; go_wp2_with fail; clear e10 HF; intro _ HF
      refine sl_move HF rfl rfl (.inr rfl) (by decide) rfl ?_; clear HF; intro _ HF
      refine sl_nil (wp_cond_false (HF.at 98 rfl) (wp_region_lit ?_))
      refine sl_op HF rfl rfl (by decide) ?_; intro K hK; have e10 := HF.see 10 rfl; go_wp2_with fail; clear e10 HF; intro _ HF
      refine sl_move HF rfl rfl (.inr rfl) (by decide) rfl ?_; clear HF; intro _ HF
      refine sl_nil (wp_cond_false (HF.at 98 rfl) (wp_seq (wp_region_lit ?_)))
      refine sl_op HF rfl rfl (by decide) ?_; intro K hK; have e10 := HF.see 10 rfl; go_wp2_with fail; clear e10 HF; intro _ HF
      refine sl_move HF rfl rfl (.inr rfl) (by decide) rfl ?_; clear HF; intro _ HF
      refine sl_nil (wp_cond_true (HF.at 123 rfl) ?_)
      have HF2 := HF.keep [1, 3, 5]
      simp only [pick, look] at HF2
      refine rm_block HF2 HK.out HM.out HB.out HI.out HX.out rfl fun a' w' r HF hr hm => ?_
      dsimp only [Exit.then, Exit.inBlock]
      exact sl_ret1 HF rfl rfl ⟨r, rfl, hr, hm⟩
    · clear hpl
      refine sl_op HF rfl rfl (by decide) ?_; intro K hK; have e10 := HF.see 10 rfl; go_wp2_with fail; clear e10 HF; intro _ HF
      refine sl_move HF rfl rfl (.inr rfl) (by decide) rfl ?_; clear HF; intro _ HF
      refine sl_nil (wp_cond_false (HF.at 11 rfl) (wp_seq (wp_region_lit ?_)))
      refine sl_op HF rfl rfl (by decide) ?_; intro K hK; have e10 := HF.see 10 rfl; go_wp2_with fail; clear e10 HF; intro _ HF
      refine sl_move HF rfl rfl (.inr rfl) (by decide) rfl ?_; clear HF; intro _ HF
      refine sl_nil (wp_cond_false (HF.at 29 rfl) (wp_seq (wp_seq (wp_region_lit ?_))))
      refine sl_op HF rfl rfl (by decide) ?_; intro K hK; have e10 := HF.see 10 rfl; go_wp2_with fail; clear e10 HF; intro _ HF
      refine sl_move HF rfl rfl (.inr rfl) (by decide) rfl ?_; clear HF; intro _ HF
      refine sl_nil (wp_cond_false (HF.at 45 rfl) (wp_region_lit ?_))
      refine sl_op HF rfl rfl (by decide) ?_; intro K hK; have e10 := HF.see 10 rfl; go_wp2_with fail; clear e10 HF; intro _ HF
      refine sl_move HF rfl rfl (.inr rfl) (by decide) rfl ?_; clear HF; intro _ HF
      refine sl_nil (wp_cond_false (HF.at 45 rfl) (wp_seq (wp_seq (wp_region_lit ?_))))
      refine sl_op HF rfl rfl (by decide) ?_; intro K hK; have e10 := HF.see 10 rfl; go_wp2_with fail; clear e10 HF; intro _ HF
      refine sl_move HF rfl rfl (.inr rfl) (by decide) rfl ?_; clear HF; intro _ HF
      refine sl_nil (wp_cond_false (HF.at 81 rfl) (wp_region_lit ?_))
      refine sl_op HF rfl rfl (by decide) ?_; intro K hK; have e10 := HF.see 10 rfl; go_wp2_with fail; clear e10 HF; intro _ HF
      refine sl_move HF rfl rfl (.inr rfl) (by decide) rfl ?_; clear HF; intro _ HF
      refine sl_nil (wp_cond_false (HF.at 81 rfl) (wp_seq (wp_seq (wp_region_lit ?_))))
      refine sl_op HF rfl rfl (by decide) ?_; intro K hK; have e10 := HF.see 10 rfl; go_wp2_with fail; clear e10 HF; intro _ HF
      refine sl_move HF rfl rfl (.inr rfl) (by decide) rfl ?_; clear HF; intro _ HF
      refine sl_nil (wp_cond_false (HF.at 98 rfl) (wp_region_lit ?_))
      refine sl_op HF rfl rfl (by decide) ?_; intro K hK; have e10 := HF.see 10 rfl; go_wp2_with fail; clear e10 HF; intro _ HF
      refine sl_move HF rfl rfl (.inr rfl) (by decide) rfl ?_; clear HF; intro _ HF
      refine sl_nil (wp_cond_false (HF.at 98 rfl) (wp_seq (wp_region_lit ?_)))
      refine sl_op HF rfl rfl (by decide) ?_; intro K hK; have e10 := HF.see 10 rfl; go_wp2_with fail; clear e10 HF; intro _ HF
      refine sl_move HF rfl rfl (.inr rfl) (by decide) rfl ?_; clear HF; intro _ HF
      refine sl_nil (wp_cond_false (HF.at 123 rfl) (wp_seq (wp_region_lit ?_)))
      refine sl_op HF rfl rfl (by decide) ?_; intro K hK; have e10 := HF.see 10 rfl; go_wp2_with fail; clear e10 HF; intro _ HF
      refine sl_move HF rfl rfl (.inr rfl) (by decide) rfl ?_; clear HF; intro _ HF
      refine sl_nil (wp_cond_true (HF.at 136 rfl) ?_)
      have HF2 := HF.keep [1, 3, 5]
      simp only [pick, look] at HF2
      refine rm_array HF2 HK.out HM.out HB.out HI.out HX.out rfl fun a' w' r HF hr hm => ?_
      dsimp only [Exit.then, Exit.inBlock]
      exact sl_ret1 HF rfl rfl ⟨r, rfl, hr, hm⟩
    · clear hpl
      refine sl_op HF rfl rfl (by decide) ?_; intro K hK; have e10 := HF.see 10 rfl; go_wp2_with fail; clear e10 HF; intro _ HF
      refine sl_move HF rfl rfl (.inr rfl) (by decide) rfl ?_; clear HF; intro _ HF
      refine sl_nil (wp_cond_false (HF.at 11 rfl) (wp_seq (wp_region_lit ?_)))
      refine sl_op HF rfl rfl (by decide) ?_; intro K hK; have e10 := HF.see 10 rfl; go_wp2_with fail; clear e10 HF; intro _ HF
      refine sl_move HF rfl rfl (.inr rfl) (by decide) rfl ?_; clear HF; intro _ HF
      refine sl_nil (wp_cond_false (HF.at 29 rfl) (wp_seq (wp_seq (wp_region_lit ?_))))
      refine sl_op HF rfl rfl (by decide) ?_; intro K hK; have e10 := HF.see 10 rfl; go_wp2_with fail; clear e10 HF; intro _ HF
      refine sl_move HF rfl rfl (.inr rfl) (by decide) rfl ?_; clear HF; intro _ HF
      refine sl_nil (wp_cond_false (HF.at 45 rfl) (wp_region_lit ?_))
      refine sl_op HF rfl rfl (by decide) ?_; intro K hK; have e10 := HF.see 10 rfl; go_wp2_with fail; clear e10 HF; intro _ HF
      refine sl_move HF rfl rfl (.inr rfl) (by decide) rfl ?_; clear HF; intro _ HF
      refine sl_nil (wp_cond_false (HF.at 45 rfl) (wp_seq (wp_seq (wp_region_lit ?_))))
      refine sl_op HF rfl rfl (by decide) ?_; intro K hK; have e10 := HF.see 10 rfl; go_wp2_with fail; clear e10 HF; intro _ HF
      refine sl_move HF rfl rfl (.inr rfl) (by decide) rfl ?_; clear HF; intro _ HF
      refine sl_nil (wp_cond_false (HF.at 81 rfl) (wp_region_lit ?_))
      refine sl_op HF rfl rfl (by decide) ?_; intro K hK; have e10 := HF.see 10 rfl; go_wp2_with fail; clear e10 HF; intro _ HF
      refine sl_move HF rfl rfl (.inr rfl) (by decide) rfl ?_; clear HF; intro _ HF
      refine sl_nil (wp_cond_false (HF.at 81 rfl) (wp_seq (wp_seq (wp_region_lit ?_))))
      refine sl_op HF rfl rfl (by decide) ?_; intro K hK; have e10 := HF.see 10 rfl; go_wp2_with fail; clear e10 HF; intro _ HF
      refine sl_move HF rfl rfl (.inr rfl) (by decide) rfl ?_; clear HF; intro _ HF
      refine sl_nil (wp_cond_false (HF.at 98 rfl) (wp_region_lit ?_))
      refine sl_op HF rfl rfl (by decide) ?_; intro K hK; have e10 := HF.see 10 rfl; go_wp2_with fail; clear e10 HF; intro _ HF
      refine sl_move HF rfl rfl (.inr rfl) (by decide) rfl ?_; clear HF; intro _ HF
      refine sl_nil (wp_cond_false (HF.at 98 rfl) (wp_seq (wp_region_lit ?_)))
      refine sl_op HF rfl rfl (by decide) ?_; intro K hK; have e10 := HF.see 10 rfl; go_wp2_with fail; clear e10 HF; intro _ HF
      refine sl_move HF rfl rfl (.inr rfl) (by decide) rfl ?_; clear HF; intro _ HF
      refine sl_nil (wp_cond_false (HF.at 123 rfl) (wp_seq (wp_region_lit ?_)))
      refine sl_op HF rfl rfl (by decide) ?_; intro K hK; have e10 := HF.see 10 rfl; go_wp2_with fail; clear e10 HF; intro _ HF
      refine sl_move HF rfl rfl (.inr rfl) (by decide) rfl ?_; clear HF; intro _ HF
      refine sl_nil (wp_cond_false (HF.at 136 rfl) (wp_seq (wp_region_lit ?_)))
      refine sl_op HF rfl rfl (by decide) ?_; intro K hK; have e10 := HF.see 10 rfl; go_wp2_with fail; clear e10 HF; intro _ HF
      refine sl_move HF rfl rfl (.inr rfl) (by decide) rfl ?_; clear HF; intro _ HF
      refine sl_nil (wp_cond_true (HF.at 146 rfl) ?_)
      have HF2 := HF.keep [1, 3, 5]
      simp only [pick, look] at HF2
      refine rm_end HF2 HK.out HM.out HB.out HI.out HX.out rfl fun a' w' r HF hr hm => ?_
      dsimp only [Exit.then, Exit.inBlock]
      exact sl_ret1 HF rfl rfl ⟨r, rfl, hr, hm⟩
end Go.Proofs.YtefloadjolpgbaaDoor

namespace Go.Proofs.YtefloadjolpgbaaDoor
open Go.RowKit

/-- Heights found so far. -/
structure RhI (ins : List InsT) (o : List Int) : Prop where
  len : o.length = ins.length
  zero : seen o 0 = some 0
  rng : ∀ (i : Nat) h, o[i]? = some h → h = -1 ∨ (0 ≤ h ∧ h ≤ 4000)

theorem RhI.init {ins : List InsT} (h : 1 ≤ ins.length) : RhI ins ((List.replicate ins.length (-1)).set 0 0) :=
  ⟨(HInv.init h).len, (HInv.init h).zero, (HInv.init h).rng⟩
theorem RhI.set {ins : List InsT} {o : List Int} (hi : RhI ins o) {t : Nat} {h k : Int} (ht : o[t]? = some k) (hk : k < 0) (h0 : 0 ≤ h) (h4 : h ≤ 4000) : RhI ins (o.set t h) := by
  have hl := (List.getElem?_eq_some_iff.1 ht).1
  have hn : seen o t = none := by
    unfold seen
    rw [ht]
    simp only
    rw [if_neg (by omega)]
  refine ⟨by rw [List.length_set, hi.len], seen_grow hn hl h0 hi.zero, fun i k' hi' => ?_⟩
  by_cases e : t = i
  · subst e
    rw [List.getElem?_set_self hl] at hi'
    cases hi'
    exact .inr ⟨h0, h4⟩
  · rw [List.getElem?_set_ne e] at hi'
    exact hi.rng i k' hi'
theorem RhI.fits {ins : List InsT} {o : List Int} (hi : RhI ins o) (hd : ∀ i, i < ins.length → Done ins o i) : Fits ins (seen o) :=
  ⟨hi.zero, fun i h hs => hd i (by have := seen_lt hs; rw [hi.len] at this; exact this) h hs⟩

/-- So the heights lie. -/
def OutB (w : World) (g : Nat) (o : List Int) (r : List Value) : Prop := Blk w g 3 (o.map iv ++ r).toArray
theorem OutB.cell {w : World} {g : Nat} {o : List Int} {r : List Value} (h : OutB w g o r) {i : Nat} {x : Int} (hx : o[i]? = some x) : w.cell? ⟨g, i, none⟩ = some (.int .i64 x) := by
  have hl := (List.getElem?_eq_some_iff.1 hx).1
  rw [Blk.cell h i, List.getElem?_toArray, List.getElem?_append_left (by simpa using hl), List.getElem?_map, hx]
  rfl
theorem OutB.set {w : World} {g : Nat} {o : List Int} {r : List Value} (h : OutB w g o r) {i : Nat} (hi : i < o.length) (x : Int) : OutB (w.setCell ⟨g, i, none⟩ (.int .i64 x)) g (o.set i x) r := by
  have := Blk.set_ h i (.int .i64 x)
  unfold OutB
  rw [List.setIfInBounds_toArray, List.set_append_left _ _ (by simpa using hi)] at this
  rw [List.map_set]
  exact this
theorem OutB.keep {w w' : World} {g : Nat} {o : List Int} {r : List Value} (h : OutB w g o r) (hm : Mod Nil w w') : OutB w' g o r := Blk.keep h hm id
end Go.Proofs.YtefloadjolpgbaaDoor

namespace Go.Proofs.YtefloadjolpgbaaDoor
open Go.RowKit

noncomputable def rhBody : Code := (Tryd.f21.body).getD .skip

/-- So many of the next ones looked at. -/
def RhJ (ins : List InsT) (ts : List Int) (w0 : World) (g1 g n cap i : Nat) (r : List Value) (most nx : Int) (A : Option Addr) (cg : Nat) (o0 : List Int) (ag0 : Bool) (ac : Act) (w : World) : Prop :=
  ∃ (o : List Int) (ag : Bool) (k : Nat), Sl 157 [(1, .pointer (some ⟨g1, 0, none⟩)), (5, .int .i64 n), (6, .slice (some ⟨g, 0, none⟩) n cap), (8, .int .i64 most), (9, .bool ag), (10, .int .i64 i), (12, .int .i64 nx), (13, .slice A ts.length cg), (14, .int .i64 (k : Nat))] ac ∧ k ≤ ts.length ∧ RhI ins o ∧
    (ag = false → o = o0 ∧ ag0 = false ∧ ∀ j t, j < k → ts[j]? = some t → 0 ≤ t ∧ seen o t.toNat = some nx) ∧ unk o ≤ unk o0 ∧ (ag = true → ag0 = true ∨ unk o < unk o0) ∧
    OutB w g o r ∧ Mod Nil w0 w ∧ Rd (fun b => b ≠ g) w A (ts.map iv)

set_option maxHeartbeats 3200000 in
set_option maxRecDepth 100000 in
theorem rh_next {Q : Exit → Act → World → Prop} {ac : Act} {w0 w : World} {ins : List InsT} {ts : List Int} {g1 g n cap i : Nat} {r : List Value} {most nx : Int} {A : Option Addr} {cg : Nat} {o0 : List Int} {ag0 : Bool}
    (HF : Sl 157 [(1, .pointer (some ⟨g1, 0, none⟩)), (5, .int .i64 n), (6, .slice (some ⟨g, 0, none⟩) n cap), (8, .int .i64 most), (9, .bool ag0), (10, .int .i64 i), (12, .int .i64 nx), (13, .slice A ts.length cg), (14, .int .i64 (0 : Nat))] ac)
    (hi : RhI ins o0) (hn : ins.length = n) (hn2 : n ≤ 20000) (hts : ts.length ≤ 2) (hcg : ts.length ≤ cg) (hnc : n ≤ cap) (hcap : cap ≤ maxLen) (hcg2 : cg ≤ maxLen) (h0 : 0 ≤ nx) (h4 : nx ≤ 4000) (hg : w0.heap.size ≤ g) (hb : OutB w g o0 r) (hm : Mod Nil w0 w) (hr : Rd (fun b => b ≠ g) w A (ts.map iv)) (hti : ∀ t ∈ ts, i64 t)
    (hBad : ∀ a' w', Sl 157 [(2, .slice none 0 0), (3, .int .i64 0), (4, .bool false)] a' → Mod Nil w0 w' → Q .ret a' w')
    (hOk : ∀ a' w' o ag, Sl 157 [(1, .pointer (some ⟨g1, 0, none⟩)), (5, .int .i64 n), (6, .slice (some ⟨g, 0, none⟩) n cap), (8, .int .i64 most), (9, .bool ag), (10, .int .i64 i)] a' → RhI ins o →
      (ag = false → o = o0 ∧ ag0 = false ∧ ∀ t ∈ ts, 0 ≤ t ∧ seen o t.toNat = some nx) → unk o ≤ unk o0 → (ag = true → ag0 = true ∨ unk o < unk o0) → OutB w' g o r → Mod Nil w0 w' → Q .normal a' w') :
    (part [1, 1, 1, 1, 1, 1, 1, 0, 1, 0, 0, 1, 0, 1, 1, 0, 0, 1, 0, 0, 1, 1, 1, 1, 1, 1, 1, 1, 1, 1] rhBody).wp Tryd.prog Q ac w := by
  have HBAD := Lib.hid hBad
  have HOK := Lib.hid hOk
  have HNN := Lib.hid hn
  have HTI := Lib.hid hti
  clear hBad hOk hti
  unfold maxLen at hcap hcg2
  conv => arg 2; whnf
  obtain ⟨m, hmm⟩ : ∃ m, ts.length = m := ⟨_, rfl⟩
  rw [hmm] at hts hcg
  refine wp_block (wp_loop (RhJ ins ts w0 g1 g n cap i r most nx A cg o0 ag0) (fun ac _ => m - (intOf (ac.eval (.tmp 14))).toNat) ⟨o0, ag0, 0, HF, Nat.zero_le _, hi, fun h => ⟨rfl, h, fun j t hj => absurd hj (by omega)⟩, Nat.le_refl _, fun h => .inl h, hb, hm, hr⟩ ?_)
  clear HF hi hb hm hr hn
  rintro ac2 w2 ⟨o, ag, k, HF, hkm, hi, hag, hu, hat, hb, hm, hr⟩
  rw [hmm] at HF hkm
  have HMU := Lib.hid (show m - (intOf ((ac2.tmps[14]?).getD undef)).toNat = m - k by rw [HF.see 14 rfl]; simp [intOf])
  have HI := Lib.hid hi
  have HAG := Lib.hid hag
  have HU := Lib.hid hu
  have HAT := Lib.hid hat
  have HB := Lib.hid hb
  have HM := Lib.hid hm
  have HR := Lib.hid hr
  have HMM := Lib.hid hmm
  clear hi hag hu hat hb hm hr hmm
  by_cases hlt : k < m
  · have hd : decide ((k : Int) < (m : Int)) = true := by simp; omega
    obtain ⟨t, ht⟩ : ∃ t, ts[k]? = some t := ⟨_, List.getElem?_eq_getElem (by rw [HMM.out]; exact hlt)⟩
    obtain ⟨adA, hAA, _, hal, hca⟩ := HR.out.at_ (k := k) (u := iv t) (by rw [List.getElem?_map, ht]; rfl)
    subst hAA
    have hca' : w2.cell? (adA.add k) = some (.int .i64 t) := hca
    have HTT := Lib.hid ht
    have hti := HTI.out t (List.mem_of_getElem? ht)
    unfold i64 at hti
    obtain ⟨hti1, hti2⟩ := hti
    clear hca ht
    refine wp_seq (wp_seq (wp_region_lit ?_))
    refine sl_move HF rfl rfl (.inl rfl) (by decide) rfl ?_; clear HF; intro _ HF
    refine sl_move HF rfl rfl (.inl rfl) (by decide) rfl ?_; clear HF; intro _ HF
    refine sl_op HF rfl rfl (by decide) ?_; intro K hK; have e101 := HF.see 101 rfl; go_wp2_with fail; clear e101 HF; intro _ HF
    refine sl_op HF rfl rfl (by decide) ?_; intro K hK; have e100 := HF.see 100 rfl; have e102 := HF.see 102 rfl; go_wp2_with fail; clear e100 e102 HF; intro _ HF
    refine sl_nil (wp_cond_true (HF.at 103 rfl) (wp_skip (sl_then (wp_seq (wp_block (wp_seq (wp_seq (wp_region_lit ?_))))))))
    by_cases ht0 : t < 0
    · have hd0 : decide (t < 0) = true := by simpa using ht0
      refine sl_move HF rfl rfl (.inl rfl) (by decide) rfl ?_; clear HF; intro _ HF
      refine sl_move HF rfl rfl (.inl rfl) (by decide) rfl ?_; clear HF; intro _ HF
      refine sl_op HF rfl rfl (by decide) ?_; intro K hK; have e106 := HF.see 106 rfl; have e107 := HF.see 107 rfl; go_wp2_with fail; clear e106 e107 HF; intro _ HF
      refine sl_op HF rfl rfl (by decide) ?_; intro K hK; have e108 := HF.see 108 rfl; go_wp2_with fail; clear e108 HF; intro _ HF
      refine sl_op HF rfl rfl (by decide) ?_; intro K hK; have e109 := HF.see 109 rfl; go_wp2_with fail; clear e109 HF; intro _ HF
      refine sl_move HF rfl rfl (.inl rfl) (by decide) rfl ?_; clear HF; intro _ HF
      refine sl_skip HF rfl rfl rfl rfl (by decide) ?_; clear HF; intro _ HF
      refine sl_skip HF rfl rfl rfl rfl (by decide) ?_; clear HF; intro _ HF
      refine sl_skip HF rfl rfl rfl rfl (by decide) ?_; clear HF; intro _ HF
      refine sl_skip HF rfl rfl rfl rfl (by decide) ?_; clear HF; intro _ HF
      refine sl_skip HF rfl rfl rfl rfl (by decide) ?_; clear HF; intro _ HF
      refine sl_skip HF rfl rfl rfl rfl (by decide) ?_; clear HF; intro _ HF
      refine sl_op HF rfl rfl (by decide) ?_; intro K hK; have e111 := HF.see 111 rfl; have e117 := HF.see 117 rfl; go_wp2_with fail; clear e111 e117 HF; intro _ HF
      refine sl_move HF rfl rfl (.inl rfl) (by decide) rfl ?_; clear HF; intro _ HF
      refine sl_skip HF rfl rfl rfl rfl (by decide) ?_; clear HF; intro _ HF
      refine sl_skip HF rfl rfl rfl rfl (by decide) ?_; clear HF; intro _ HF
      refine sl_skip HF rfl rfl rfl rfl (by decide) ?_; clear HF; intro _ HF
      refine sl_skip HF rfl rfl rfl rfl (by decide) ?_; clear HF; intro _ HF
      refine sl_skip HF rfl rfl rfl rfl (by decide) ?_; clear HF; intro _ HF
      refine sl_skip HF rfl rfl rfl rfl (by decide) ?_; clear HF; intro _ HF
      refine sl_skip HF rfl rfl rfl rfl (by decide) ?_; clear HF; intro _ HF
      refine sl_skip HF rfl rfl rfl rfl (by decide) ?_; clear HF; intro _ HF
      refine sl_skip HF rfl rfl rfl rfl (by decide) ?_; clear HF; intro _ HF
      refine sl_skip_u HF rfl rfl rfl rfl (by decide) ?_; clear HF; intro _ HF
      refine sl_skip_u HF rfl rfl rfl rfl (by decide) ?_; clear HF; intro _ HF
      refine sl_skip_u HF rfl rfl rfl rfl (by decide) ?_; clear HF; intro _ HF
      refine sl_skip_u HF rfl rfl rfl rfl (by decide) ?_; clear HF; intro _ HF
      refine sl_skip_u HF rfl rfl rfl rfl (by decide) ?_; clear HF; intro _ HF
      refine sl_skip_u HF rfl rfl rfl rfl (by decide) ?_; clear HF; intro _ HF
      refine sl_skip_u HF rfl rfl rfl rfl (by decide) ?_; clear HF; intro _ HF
      refine sl_skip_u HF rfl rfl rfl rfl (by decide) ?_; clear HF; intro _ HF
      refine sl_skip_u HF rfl rfl rfl rfl (by decide) ?_; clear HF; intro _ HF
      refine sl_skip HF rfl rfl rfl rfl (by decide) ?_; clear HF; intro _ HF
      refine sl_op HF rfl rfl (by decide) ?_; intro K hK; have e119 := HF.see 119 rfl; have e138 := HF.see 138 rfl; go_wp2_with fail; clear e119 e138 HF; intro _ HF
      refine sl_nil (wp_cond_true (HF.at 139 rfl) (wp_seq (wp_region_lit ?_)))
      refine sl_const HF rfl rfl (.inr rfl) (by decide) ?_; clear HF; intro _ HF
      refine sl_const HF rfl rfl (.inr rfl) (by decide) ?_; clear HF; intro _ HF
      refine sl_const HF rfl rfl (.inr rfl) (by decide) ?_; clear HF; intro _ HF
      refine sl_nil (wp_ret ?_)
      dsimp only [Exit.then, Exit.inBlock]
      have HF2 := HF.keep [2, 3, 4]
      simp only [pick, look] at HF2
      exact HBAD.out _ _ HF2 HM.out
    have hd0 : decide (t < 0) = false := by simpa using ht0
    by_cases htn : (n : Int) ≤ t
    · have hd1 : decide ((n : Int) ≤ t) = true := by simpa using htn
      refine sl_move HF rfl rfl (.inl rfl) (by decide) rfl ?_; clear HF; intro _ HF
      refine sl_move HF rfl rfl (.inl rfl) (by decide) rfl ?_; clear HF; intro _ HF
      refine sl_op HF rfl rfl (by decide) ?_; intro K hK; have e106 := HF.see 106 rfl; have e107 := HF.see 107 rfl; go_wp2_with fail; clear e106 e107 HF; intro _ HF
      refine sl_op HF rfl rfl (by decide) ?_; intro K hK; have e108 := HF.see 108 rfl; go_wp2_with fail; clear e108 HF; intro _ HF
      refine sl_op HF rfl rfl (by decide) ?_; intro K hK; have e109 := HF.see 109 rfl; go_wp2_with fail; clear e109 HF; intro _ HF
      refine sl_move HF rfl rfl (.inl rfl) (by decide) rfl ?_; clear HF; intro _ HF
      refine sl_want HF rfl rfl rfl rfl (by decide) ?_; intro K hK; have e13 := HF.see 13 rfl; go_wp2_with fail; clear e13 HF; intro _ HF
      refine sl_want HF rfl rfl rfl rfl (by decide) ?_; intro K hK; have e14 := HF.see 14 rfl; go_wp2_with fail; clear e14 HF; intro _ HF
      refine sl_want HF rfl rfl rfl rfl (by decide) ?_; intro K hK; have e112 := HF.see 112 rfl; have e113 := HF.see 113 rfl; go_wp2_with fail; clear e112 e113 HF; intro _ HF
      refine sl_want HF rfl rfl rfl rfl (by decide) ?_; intro K hK; have e114 := HF.see 114 rfl; go_wp2_with fail; clear e114 HF; intro _ HF
      refine sl_want HF rfl rfl rfl rfl (by decide) ?_; intro K hK; have e5 := HF.see 5 rfl; go_wp2_with fail; clear e5 HF; intro _ HF
      refine sl_want HF rfl rfl rfl rfl (by decide) ?_; intro K hK; have e115 := HF.see 115 rfl; have e116 := HF.see 116 rfl; go_wp2_with fail; clear e115 e116 HF; intro _ HF
      refine sl_op HF rfl rfl (by decide) ?_; intro K hK; have e111 := HF.see 111 rfl; have e117 := HF.see 117 rfl; go_wp2_with fail; clear e111 e117 HF; intro _ HF
      refine sl_move HF rfl rfl (.inl rfl) (by decide) rfl ?_; clear HF; intro _ HF
      refine sl_skip HF rfl rfl rfl rfl (by decide) ?_; clear HF; intro _ HF
      refine sl_skip HF rfl rfl rfl rfl (by decide) ?_; clear HF; intro _ HF
      refine sl_skip HF rfl rfl rfl rfl (by decide) ?_; clear HF; intro _ HF
      refine sl_skip HF rfl rfl rfl rfl (by decide) ?_; clear HF; intro _ HF
      refine sl_skip HF rfl rfl rfl rfl (by decide) ?_; clear HF; intro _ HF
      refine sl_skip HF rfl rfl rfl rfl (by decide) ?_; clear HF; intro _ HF
      refine sl_skip HF rfl rfl rfl rfl (by decide) ?_; clear HF; intro _ HF
      refine sl_skip HF rfl rfl rfl rfl (by decide) ?_; clear HF; intro _ HF
      refine sl_skip HF rfl rfl rfl rfl (by decide) ?_; clear HF; intro _ HF
      refine sl_skip_u HF rfl rfl rfl rfl (by decide) ?_; clear HF; intro _ HF
      refine sl_skip_u HF rfl rfl rfl rfl (by decide) ?_; clear HF; intro _ HF
      refine sl_skip_u HF rfl rfl rfl rfl (by decide) ?_; clear HF; intro _ HF
      refine sl_skip_u HF rfl rfl rfl rfl (by decide) ?_; clear HF; intro _ HF
      refine sl_skip_u HF rfl rfl rfl rfl (by decide) ?_; clear HF; intro _ HF
      refine sl_skip_u HF rfl rfl rfl rfl (by decide) ?_; clear HF; intro _ HF
      refine sl_skip_u HF rfl rfl rfl rfl (by decide) ?_; clear HF; intro _ HF
      refine sl_skip_u HF rfl rfl rfl rfl (by decide) ?_; clear HF; intro _ HF
      refine sl_skip_u HF rfl rfl rfl rfl (by decide) ?_; clear HF; intro _ HF
      refine sl_skip HF rfl rfl rfl rfl (by decide) ?_; clear HF; intro _ HF
      refine sl_op HF rfl rfl (by decide) ?_; intro K hK; have e119 := HF.see 119 rfl; have e138 := HF.see 138 rfl; go_wp2_with fail; clear e119 e138 HF; intro _ HF
      refine sl_nil (wp_cond_true (HF.at 139 rfl) (wp_seq (wp_region_lit ?_)))
      refine sl_const HF rfl rfl (.inr rfl) (by decide) ?_; clear HF; intro _ HF
      refine sl_const HF rfl rfl (.inr rfl) (by decide) ?_; clear HF; intro _ HF
      refine sl_const HF rfl rfl (.inr rfl) (by decide) ?_; clear HF; intro _ HF
      refine sl_nil (wp_ret ?_)
      dsimp only [Exit.then, Exit.inBlock]
      have HF2 := HF.keep [2, 3, 4]
      simp only [pick, look] at HF2
      exact HBAD.out _ _ HF2 HM.out
    have hd1 : decide ((n : Int) ≤ t) = false := by simpa using htn
    obtain ⟨tn, rfl⟩ : ∃ tn : Nat, t = tn := ⟨t.toNat, by omega⟩
    have htn' : tn < n := by omega
    have hd1' : decide (n ≤ tn) = false := by simp; omega
    have hd0' : decide ((tn : Int) < 0) = false := by simp
    obtain ⟨ot, hot⟩ : ∃ ot, o[tn]? = some ot := ⟨_, List.getElem?_eq_getElem (by rw [HI.out.len, HNN.out]; exact htn')⟩
    have hct : w2.cell? ⟨g, tn, none⟩ = some (.int .i64 ot) := HB.out.cell hot
    have hfz : w2.frozen? ⟨g, tn, none⟩ = false := HB.out.frozen tn
    have HOT := Lib.hid hot
    clear hot
    by_cases hun : ot < 0
    · have hq1 : decide (0 ≤ ot) = false := by simp; omega
      have hq2 : decide (ot < 0) = true := by simpa using hun
      refine sl_move HF rfl rfl (.inl rfl) (by decide) rfl ?_; clear HF; intro _ HF
      refine sl_move HF rfl rfl (.inl rfl) (by decide) rfl ?_; clear HF; intro _ HF
      refine sl_op HF rfl rfl (by decide) ?_; intro K hK; have e106 := HF.see 106 rfl; have e107 := HF.see 107 rfl; go_wp2_with fail; clear e106 e107 HF; intro _ HF
      refine sl_op HF rfl rfl (by decide) ?_; intro K hK; have e108 := HF.see 108 rfl; go_wp2_with fail; clear e108 HF; intro _ HF
      refine sl_op HF rfl rfl (by decide) ?_; intro K hK; have e109 := HF.see 109 rfl; go_wp2_with fail; clear e109 HF; intro _ HF
      refine sl_move HF rfl rfl (.inl rfl) (by decide) rfl ?_; clear HF; intro _ HF
      refine sl_want HF rfl rfl rfl rfl (by decide) ?_; intro K hK; have e13 := HF.see 13 rfl; go_wp2_with fail; clear e13 HF; intro _ HF
      refine sl_want HF rfl rfl rfl rfl (by decide) ?_; intro K hK; have e14 := HF.see 14 rfl; go_wp2_with fail; clear e14 HF; intro _ HF
      refine sl_want HF rfl rfl rfl rfl (by decide) ?_; intro K hK; have e112 := HF.see 112 rfl; have e113 := HF.see 113 rfl; go_wp2_with fail; clear e112 e113 HF; intro _ HF
      refine sl_want HF rfl rfl rfl rfl (by decide) ?_; intro K hK; have e114 := HF.see 114 rfl; go_wp2_with fail; clear e114 HF; intro _ HF
      refine sl_want HF rfl rfl rfl rfl (by decide) ?_; intro K hK; have e5 := HF.see 5 rfl; go_wp2_with fail; clear e5 HF; intro _ HF
      refine sl_want HF rfl rfl rfl rfl (by decide) ?_; intro K hK; have e115 := HF.see 115 rfl; have e116 := HF.see 116 rfl; go_wp2_with fail; clear e115 e116 HF; intro _ HF
      refine sl_op HF rfl rfl (by decide) ?_; intro K hK; have e111 := HF.see 111 rfl; have e117 := HF.see 117 rfl; go_wp2_with fail; clear e111 e117 HF; intro _ HF
      refine sl_move HF rfl rfl (.inl rfl) (by decide) rfl ?_; clear HF; intro _ HF
      refine sl_want HF rfl rfl rfl rfl (by decide) ?_; intro K hK; have e6 := HF.see 6 rfl; go_wp2_with fail; clear e6 HF; intro _ HF
      refine sl_want HF rfl rfl rfl rfl (by decide) ?_; intro K hK; have e13 := HF.see 13 rfl; go_wp2_with fail; clear e13 HF; intro _ HF
      refine sl_want HF rfl rfl rfl rfl (by decide) ?_; intro K hK; have e14 := HF.see 14 rfl; go_wp2_with fail; clear e14 HF; intro _ HF
      refine sl_want HF rfl rfl rfl rfl (by decide) ?_; intro K hK; have e121 := HF.see 121 rfl; have e122 := HF.see 122 rfl; go_wp2_with fail; clear e121 e122 HF; intro _ HF
      refine sl_want HF rfl rfl rfl rfl (by decide) ?_; intro K hK; have e123 := HF.see 123 rfl; go_wp2_with fail; clear e123 HF; intro _ HF
      refine sl_want HF rfl rfl rfl rfl (by decide) ?_; intro K hK; have e120 := HF.see 120 rfl; have e124 := HF.see 124 rfl; go_wp2_with fail; clear e120 e124 HF; intro _ HF
      refine sl_want HF rfl rfl rfl rfl (by decide) ?_; intro K hK; have e125 := HF.see 125 rfl; go_wp2_with fail; clear e125 HF; intro _ HF
      refine sl_want HF rfl rfl rfl rfl (by decide) ?_; intro K hK; have e126 := HF.see 126 rfl; go_wp2_with fail; clear e126 HF; intro _ HF
      refine sl_want HF rfl rfl rfl rfl (by decide) ?_; intro K hK; have e127 := HF.see 127 rfl; go_wp2_with fail; clear e127 HF; intro _ HF
      refine sl_skip HF rfl rfl rfl rfl (by decide) ?_; clear HF; intro _ HF
      refine sl_skip HF rfl rfl rfl rfl (by decide) ?_; clear HF; intro _ HF
      refine sl_skip HF rfl rfl rfl rfl (by decide) ?_; clear HF; intro _ HF
      refine sl_skip HF rfl rfl rfl rfl (by decide) ?_; clear HF; intro _ HF
      refine sl_skip HF rfl rfl rfl rfl (by decide) ?_; clear HF; intro _ HF
      refine sl_skip HF rfl rfl rfl rfl (by decide) ?_; clear HF; intro _ HF
      refine sl_skip HF rfl rfl rfl rfl (by decide) ?_; clear HF; intro _ HF
      refine sl_skip HF rfl rfl rfl rfl (by decide) ?_; clear HF; intro _ HF
      refine sl_skip HF rfl rfl rfl rfl (by decide) ?_; clear HF; intro _ HF
      refine sl_want HF rfl rfl rfl rfl (by decide) ?_; intro K hK; have e128 := HF.see 128 rfl; have e137 := HF.see 137 rfl; go_wp2_with fail; clear e128 e137 HF; intro _ HF
      refine sl_op HF rfl rfl (by decide) ?_; intro K hK; have e119 := HF.see 119 rfl; have e138 := HF.see 138 rfl; go_wp2_with fail; clear e119 e138 HF; intro _ HF
      refine sl_nil (wp_cond_false (HF.at 139 rfl) (wp_skip (sl_then (wp_seq (wp_region_lit ?_)))))
      have HF2 := HF.keep [1, 5, 6, 8, 9, 10, 12, 13, 14]
      simp only [pick, look] at HF2
      clear HF
      have HF := HF2
      clear HF2
      refine sl_move HF rfl rfl (.inl rfl) (by decide) rfl ?_; clear HF; intro _ HF
      refine sl_move HF rfl rfl (.inl rfl) (by decide) rfl ?_; clear HF; intro _ HF
      refine sl_move HF rfl rfl (.inl rfl) (by decide) rfl ?_; clear HF; intro _ HF
      refine sl_op HF rfl rfl (by decide) ?_; intro K hK; have e141 := HF.see 141 rfl; have e142 := HF.see 142 rfl; go_wp2_with fail; clear e141 e142 HF; intro _ HF
      refine sl_op HF rfl rfl (by decide) ?_; intro K hK; have e143 := HF.see 143 rfl; go_wp2_with fail; clear e143 HF; intro _ HF
      refine sl_op HF rfl rfl (by decide) ?_; intro K hK; have e140 := HF.see 140 rfl; have e144 := HF.see 144 rfl; go_wp2_with fail; clear e140 e144 HF; intro _ HF
      refine sl_op HF rfl rfl (by decide) ?_; intro K hK; have e145 := HF.see 145 rfl; go_wp2_with fail; clear e145 HF; intro _ HF
      refine sl_op HF rfl rfl (by decide) ?_; intro K hK; have e146 := HF.see 146 rfl; go_wp2_with fail; clear e146 HF; intro _ HF
      refine sl_nil (wp_cond_true (HF.at 147 rfl) (wp_seq (wp_region_lit ?_)))
      refine sl_move HF rfl rfl (.inl rfl) (by decide) rfl ?_; clear HF; intro _ HF
      refine sl_move HF rfl rfl (.inl rfl) (by decide) rfl ?_; clear HF; intro _ HF
      refine sl_move HF rfl rfl (.inl rfl) (by decide) rfl ?_; clear HF; intro _ HF
      refine sl_op HF rfl rfl (by decide) ?_; intro K hK; have e149 := HF.see 149 rfl; have e150 := HF.see 150 rfl; go_wp2_with fail; clear e149 e150 HF; intro _ HF
      refine sl_op HF rfl rfl (by decide) ?_; intro K hK; have e151 := HF.see 151 rfl; go_wp2_with fail; clear e151 HF; intro _ HF
      refine sl_move HF rfl rfl (.inl rfl) (by decide) rfl ?_; clear HF; intro _ HF
      refine sl_op HF rfl rfl (by decide) ?_; intro K hK; have e148 := HF.see 148 rfl; have e152 := HF.see 152 rfl; go_wp2_with fail; clear e148 e152 HF; intro _ HF
      refine sl_op0 HF rfl rfl ?_; intro K hK; have e154 := HF.see 154 rfl; have e153 := HF.see 153 rfl; go_wp2_with fail; clear e154 e153 HF; intro _ HF
      have hb3 := HB.out.set (i := tn) (by rw [HI.out.len, HNN.out]; exact htn') nx
      have hm3 := HM.out.set (p := ⟨g, tn, none⟩) (.inr hg) (.int .i64 nx)
      have hr3 := HR.out.keep (Mod.set (F := fun k => k = g) (Mod.refl _ w2) (p := ⟨g, tn, none⟩) (.inl rfl) (.int .i64 nx)) (fun b hb h => hb h)
      have hi3 := HI.out.set HOT.out hun h0 h4
      have hu3 := unk_set (h := nx) HOT.out hun h0
      generalize w2.setCell ⟨g, tn, none⟩ (.int .i64 nx) = w3 at hb3 hm3 hr3 ⊢
      refine sl_nil (wp_region_lit ?_)
      refine sl_const HF rfl rfl (.inr rfl) (by decide) ?_; clear HF; intro _ HF
      refine wpList_nil ?_
      dsimp only [Exit.then, Exit.inBlock]
      refine wp_region_lit ?_
      refine sl_move HF rfl rfl (.inl rfl) (by decide) rfl ?_; clear HF; intro _ HF
      refine sl_op HF rfl rfl (by decide) ?_; intro K hK; have e104 := HF.see 104 rfl; go_wp2_with fail; clear e104 HF; intro _ HF
      refine sl_move HF rfl rfl (.inr rfl) (by decide) rfl ?_; clear HF; intro _ HF
      have HF2 := HF.keep [1, 5, 6, 8, 9, 10, 12, 13, 14]
      simp only [pick, look] at HF2
      refine wpList_nil ?_
      show _ ∧ _
      refine ⟨⟨o.set tn nx, true, k + 1, ?_, by rw [HMM.out]; omega, hi3, fun h => by (cases h), by have := HU.out; omega, fun _ => .inr (by have := HU.out; omega), hb3, hm3, hr3⟩, ?_⟩
      · rw [HMM.out]
        exact_mod_cast HF2
      · have e6 := HF2.see 14 rfl
        try simp only [Act.eval_tmp]
        rw [e6, HMU.out]
        simp only [intOf]
        omega
    have hq1 : decide (0 ≤ ot) = true := by simp; omega
    have hq2 : decide (ot < 0) = false := by simpa using hun
    by_cases hne : ot = nx
    · have hq3 : (ot != nx) = false := by simp [hne]
      have HNE := Lib.hid hne
      clear hne
      refine sl_move HF rfl rfl (.inl rfl) (by decide) rfl ?_; clear HF; intro _ HF
      refine sl_move HF rfl rfl (.inl rfl) (by decide) rfl ?_; clear HF; intro _ HF
      refine sl_op HF rfl rfl (by decide) ?_; intro K hK; have e106 := HF.see 106 rfl; have e107 := HF.see 107 rfl; go_wp2_with fail; clear e106 e107 HF; intro _ HF
      refine sl_op HF rfl rfl (by decide) ?_; intro K hK; have e108 := HF.see 108 rfl; go_wp2_with fail; clear e108 HF; intro _ HF
      refine sl_op HF rfl rfl (by decide) ?_; intro K hK; have e109 := HF.see 109 rfl; go_wp2_with fail; clear e109 HF; intro _ HF
      refine sl_move HF rfl rfl (.inl rfl) (by decide) rfl ?_; clear HF; intro _ HF
      refine sl_want HF rfl rfl rfl rfl (by decide) ?_; intro K hK; have e13 := HF.see 13 rfl; go_wp2_with fail; clear e13 HF; intro _ HF
      refine sl_want HF rfl rfl rfl rfl (by decide) ?_; intro K hK; have e14 := HF.see 14 rfl; go_wp2_with fail; clear e14 HF; intro _ HF
      refine sl_want HF rfl rfl rfl rfl (by decide) ?_; intro K hK; have e112 := HF.see 112 rfl; have e113 := HF.see 113 rfl; go_wp2_with fail; clear e112 e113 HF; intro _ HF
      refine sl_want HF rfl rfl rfl rfl (by decide) ?_; intro K hK; have e114 := HF.see 114 rfl; go_wp2_with fail; clear e114 HF; intro _ HF
      refine sl_want HF rfl rfl rfl rfl (by decide) ?_; intro K hK; have e5 := HF.see 5 rfl; go_wp2_with fail; clear e5 HF; intro _ HF
      refine sl_want HF rfl rfl rfl rfl (by decide) ?_; intro K hK; have e115 := HF.see 115 rfl; have e116 := HF.see 116 rfl; go_wp2_with fail; clear e115 e116 HF; intro _ HF
      refine sl_op HF rfl rfl (by decide) ?_; intro K hK; have e111 := HF.see 111 rfl; have e117 := HF.see 117 rfl; go_wp2_with fail; clear e111 e117 HF; intro _ HF
      refine sl_move HF rfl rfl (.inl rfl) (by decide) rfl ?_; clear HF; intro _ HF
      refine sl_want HF rfl rfl rfl rfl (by decide) ?_; intro K hK; have e6 := HF.see 6 rfl; go_wp2_with fail; clear e6 HF; intro _ HF
      refine sl_want HF rfl rfl rfl rfl (by decide) ?_; intro K hK; have e13 := HF.see 13 rfl; go_wp2_with fail; clear e13 HF; intro _ HF
      refine sl_want HF rfl rfl rfl rfl (by decide) ?_; intro K hK; have e14 := HF.see 14 rfl; go_wp2_with fail; clear e14 HF; intro _ HF
      refine sl_want HF rfl rfl rfl rfl (by decide) ?_; intro K hK; have e121 := HF.see 121 rfl; have e122 := HF.see 122 rfl; go_wp2_with fail; clear e121 e122 HF; intro _ HF
      refine sl_want HF rfl rfl rfl rfl (by decide) ?_; intro K hK; have e123 := HF.see 123 rfl; go_wp2_with fail; clear e123 HF; intro _ HF
      refine sl_want HF rfl rfl rfl rfl (by decide) ?_; intro K hK; have e120 := HF.see 120 rfl; have e124 := HF.see 124 rfl; go_wp2_with fail; clear e120 e124 HF; intro _ HF
      refine sl_want HF rfl rfl rfl rfl (by decide) ?_; intro K hK; have e125 := HF.see 125 rfl; go_wp2_with fail; clear e125 HF; intro _ HF
      refine sl_want HF rfl rfl rfl rfl (by decide) ?_; intro K hK; have e126 := HF.see 126 rfl; go_wp2_with fail; clear e126 HF; intro _ HF
      refine sl_want HF rfl rfl rfl rfl (by decide) ?_; intro K hK; have e127 := HF.see 127 rfl; go_wp2_with fail; clear e127 HF; intro _ HF
      refine sl_want HF rfl rfl rfl rfl (by decide) ?_; intro K hK; have e6 := HF.see 6 rfl; go_wp2_with fail; clear e6 HF; intro _ HF
      refine sl_want HF rfl rfl rfl rfl (by decide) ?_; intro K hK; have e13 := HF.see 13 rfl; go_wp2_with fail; clear e13 HF; intro _ HF
      refine sl_want HF rfl rfl rfl rfl (by decide) ?_; intro K hK; have e14 := HF.see 14 rfl; go_wp2_with fail; clear e14 HF; intro _ HF
      refine sl_want HF rfl rfl rfl rfl (by decide) ?_; intro K hK; have e130 := HF.see 130 rfl; have e131 := HF.see 131 rfl; go_wp2_with fail; clear e130 e131 HF; intro _ HF
      refine sl_want HF rfl rfl rfl rfl (by decide) ?_; intro K hK; have e132 := HF.see 132 rfl; go_wp2_with fail; clear e132 HF; intro _ HF
      refine sl_want HF rfl rfl rfl rfl (by decide) ?_; intro K hK; have e129 := HF.see 129 rfl; have e133 := HF.see 133 rfl; go_wp2_with fail; clear e129 e133 HF; intro _ HF
      refine sl_want HF rfl rfl rfl rfl (by decide) ?_; intro K hK; have e134 := HF.see 134 rfl; go_wp2_with fail; clear e134 HF; intro _ HF
      refine sl_want HF rfl rfl rfl rfl (by decide) ?_; intro K hK; have e12 := HF.see 12 rfl; go_wp2_with fail; clear e12 HF; intro _ HF
      refine sl_want HF rfl rfl rfl rfl (by decide) ?_; intro K hK; have e135 := HF.see 135 rfl; have e136 := HF.see 136 rfl; go_wp2_with fail; clear e135 e136 HF; intro _ HF
      refine sl_want HF rfl rfl rfl rfl (by decide) ?_; intro K hK; have e128 := HF.see 128 rfl; have e137 := HF.see 137 rfl; go_wp2_with fail; clear e128 e137 HF; intro _ HF
      refine sl_op HF rfl rfl (by decide) ?_; intro K hK; have e119 := HF.see 119 rfl; have e138 := HF.see 138 rfl; go_wp2_with fail; clear e119 e138 HF; intro _ HF
      refine sl_nil (wp_cond_false (HF.at 139 rfl) (wp_skip (sl_then (wp_seq (wp_region_lit ?_)))))
      have HF2 := HF.keep [1, 5, 6, 8, 9, 10, 12, 13, 14]
      simp only [pick, look] at HF2
      clear HF
      have HF := HF2
      clear HF2
      refine sl_move HF rfl rfl (.inl rfl) (by decide) rfl ?_; clear HF; intro _ HF
      refine sl_move HF rfl rfl (.inl rfl) (by decide) rfl ?_; clear HF; intro _ HF
      refine sl_move HF rfl rfl (.inl rfl) (by decide) rfl ?_; clear HF; intro _ HF
      refine sl_op HF rfl rfl (by decide) ?_; intro K hK; have e141 := HF.see 141 rfl; have e142 := HF.see 142 rfl; go_wp2_with fail; clear e141 e142 HF; intro _ HF
      refine sl_op HF rfl rfl (by decide) ?_; intro K hK; have e143 := HF.see 143 rfl; go_wp2_with fail; clear e143 HF; intro _ HF
      refine sl_op HF rfl rfl (by decide) ?_; intro K hK; have e140 := HF.see 140 rfl; have e144 := HF.see 144 rfl; go_wp2_with fail; clear e140 e144 HF; intro _ HF
      refine sl_op HF rfl rfl (by decide) ?_; intro K hK; have e145 := HF.see 145 rfl; go_wp2_with fail; clear e145 HF; intro _ HF
      refine sl_op HF rfl rfl (by decide) ?_; intro K hK; have e146 := HF.see 146 rfl; go_wp2_with fail; clear e146 HF; intro _ HF
      refine sl_nil (wp_cond_false (HF.at 147 rfl) (wp_skip ?_))
      dsimp only [Exit.then, Exit.inBlock]
      refine wp_region_lit ?_
      refine sl_move HF rfl rfl (.inl rfl) (by decide) rfl ?_; clear HF; intro _ HF
      refine sl_op HF rfl rfl (by decide) ?_; intro K hK; have e104 := HF.see 104 rfl; go_wp2_with fail; clear e104 HF; intro _ HF
      refine sl_move HF rfl rfl (.inr rfl) (by decide) rfl ?_; clear HF; intro _ HF
      have HF2 := HF.keep [1, 5, 6, 8, 9, 10, 12, 13, 14]
      simp only [pick, look] at HF2
      refine wpList_nil ?_
      show _ ∧ _
      refine ⟨⟨o, ag, k + 1, ?_, by rw [HMM.out]; omega, HI.out, fun h => ?_, HU.out, HAT.out, HB.out, HM.out, HR.out⟩, ?_⟩
      · rw [HMM.out]
        exact_mod_cast HF2
      · obtain ⟨h1, h2, h3⟩ := HAG.out h
        refine ⟨h1, h2, fun j t hj hjt => ?_⟩
        rcases Nat.lt_or_ge j k with hjk | hjk
        · exact h3 j t hjk hjt
        · obtain rfl : j = k := by omega
          rw [HTT.out] at hjt
          cases hjt
          refine ⟨by omega, seen_some.2 ⟨?_, h0⟩⟩
          rw [Int.toNat_natCast, HOT.out, HNE.out]
      · have e6 := HF2.see 14 rfl
        try simp only [Act.eval_tmp]
        rw [e6, HMU.out]
        simp only [intOf]
        omega
    · have hq3 : (ot != nx) = true := by simp [hne]
      clear hne
      refine sl_move HF rfl rfl (.inl rfl) (by decide) rfl ?_; clear HF; intro _ HF
      refine sl_move HF rfl rfl (.inl rfl) (by decide) rfl ?_; clear HF; intro _ HF
      refine sl_op HF rfl rfl (by decide) ?_; intro K hK; have e106 := HF.see 106 rfl; have e107 := HF.see 107 rfl; go_wp2_with fail; clear e106 e107 HF; intro _ HF
      refine sl_op HF rfl rfl (by decide) ?_; intro K hK; have e108 := HF.see 108 rfl; go_wp2_with fail; clear e108 HF; intro _ HF
      refine sl_op HF rfl rfl (by decide) ?_; intro K hK; have e109 := HF.see 109 rfl; go_wp2_with fail; clear e109 HF; intro _ HF
      refine sl_move HF rfl rfl (.inl rfl) (by decide) rfl ?_; clear HF; intro _ HF
      refine sl_want HF rfl rfl rfl rfl (by decide) ?_; intro K hK; have e13 := HF.see 13 rfl; go_wp2_with fail; clear e13 HF; intro _ HF
      refine sl_want HF rfl rfl rfl rfl (by decide) ?_; intro K hK; have e14 := HF.see 14 rfl; go_wp2_with fail; clear e14 HF; intro _ HF
      refine sl_want HF rfl rfl rfl rfl (by decide) ?_; intro K hK; have e112 := HF.see 112 rfl; have e113 := HF.see 113 rfl; go_wp2_with fail; clear e112 e113 HF; intro _ HF
      refine sl_want HF rfl rfl rfl rfl (by decide) ?_; intro K hK; have e114 := HF.see 114 rfl; go_wp2_with fail; clear e114 HF; intro _ HF
      refine sl_want HF rfl rfl rfl rfl (by decide) ?_; intro K hK; have e5 := HF.see 5 rfl; go_wp2_with fail; clear e5 HF; intro _ HF
      refine sl_want HF rfl rfl rfl rfl (by decide) ?_; intro K hK; have e115 := HF.see 115 rfl; have e116 := HF.see 116 rfl; go_wp2_with fail; clear e115 e116 HF; intro _ HF
      refine sl_op HF rfl rfl (by decide) ?_; intro K hK; have e111 := HF.see 111 rfl; have e117 := HF.see 117 rfl; go_wp2_with fail; clear e111 e117 HF; intro _ HF
      refine sl_move HF rfl rfl (.inl rfl) (by decide) rfl ?_; clear HF; intro _ HF
      refine sl_want HF rfl rfl rfl rfl (by decide) ?_; intro K hK; have e6 := HF.see 6 rfl; go_wp2_with fail; clear e6 HF; intro _ HF
      refine sl_want HF rfl rfl rfl rfl (by decide) ?_; intro K hK; have e13 := HF.see 13 rfl; go_wp2_with fail; clear e13 HF; intro _ HF
      refine sl_want HF rfl rfl rfl rfl (by decide) ?_; intro K hK; have e14 := HF.see 14 rfl; go_wp2_with fail; clear e14 HF; intro _ HF
      refine sl_want HF rfl rfl rfl rfl (by decide) ?_; intro K hK; have e121 := HF.see 121 rfl; have e122 := HF.see 122 rfl; go_wp2_with fail; clear e121 e122 HF; intro _ HF
      refine sl_want HF rfl rfl rfl rfl (by decide) ?_; intro K hK; have e123 := HF.see 123 rfl; go_wp2_with fail; clear e123 HF; intro _ HF
      refine sl_want HF rfl rfl rfl rfl (by decide) ?_; intro K hK; have e120 := HF.see 120 rfl; have e124 := HF.see 124 rfl; go_wp2_with fail; clear e120 e124 HF; intro _ HF
      refine sl_want HF rfl rfl rfl rfl (by decide) ?_; intro K hK; have e125 := HF.see 125 rfl; go_wp2_with fail; clear e125 HF; intro _ HF
      refine sl_want HF rfl rfl rfl rfl (by decide) ?_; intro K hK; have e126 := HF.see 126 rfl; go_wp2_with fail; clear e126 HF; intro _ HF
      refine sl_want HF rfl rfl rfl rfl (by decide) ?_; intro K hK; have e127 := HF.see 127 rfl; go_wp2_with fail; clear e127 HF; intro _ HF
      refine sl_want HF rfl rfl rfl rfl (by decide) ?_; intro K hK; have e6 := HF.see 6 rfl; go_wp2_with fail; clear e6 HF; intro _ HF
      refine sl_want HF rfl rfl rfl rfl (by decide) ?_; intro K hK; have e13 := HF.see 13 rfl; go_wp2_with fail; clear e13 HF; intro _ HF
      refine sl_want HF rfl rfl rfl rfl (by decide) ?_; intro K hK; have e14 := HF.see 14 rfl; go_wp2_with fail; clear e14 HF; intro _ HF
      refine sl_want HF rfl rfl rfl rfl (by decide) ?_; intro K hK; have e130 := HF.see 130 rfl; have e131 := HF.see 131 rfl; go_wp2_with fail; clear e130 e131 HF; intro _ HF
      refine sl_want HF rfl rfl rfl rfl (by decide) ?_; intro K hK; have e132 := HF.see 132 rfl; go_wp2_with fail; clear e132 HF; intro _ HF
      refine sl_want HF rfl rfl rfl rfl (by decide) ?_; intro K hK; have e129 := HF.see 129 rfl; have e133 := HF.see 133 rfl; go_wp2_with fail; clear e129 e133 HF; intro _ HF
      refine sl_want HF rfl rfl rfl rfl (by decide) ?_; intro K hK; have e134 := HF.see 134 rfl; go_wp2_with fail; clear e134 HF; intro _ HF
      refine sl_want HF rfl rfl rfl rfl (by decide) ?_; intro K hK; have e12 := HF.see 12 rfl; go_wp2_with fail; clear e12 HF; intro _ HF
      refine sl_want HF rfl rfl rfl rfl (by decide) ?_; intro K hK; have e135 := HF.see 135 rfl; have e136 := HF.see 136 rfl; go_wp2_with fail; clear e135 e136 HF; intro _ HF
      refine sl_want HF rfl rfl rfl rfl (by decide) ?_; intro K hK; have e128 := HF.see 128 rfl; have e137 := HF.see 137 rfl; go_wp2_with fail; clear e128 e137 HF; intro _ HF
      refine sl_op HF rfl rfl (by decide) ?_; intro K hK; have e119 := HF.see 119 rfl; have e138 := HF.see 138 rfl; go_wp2_with fail; clear e119 e138 HF; intro _ HF
      refine sl_nil (wp_cond_true (HF.at 139 rfl) (wp_seq (wp_region_lit ?_)))
      refine sl_const HF rfl rfl (.inr rfl) (by decide) ?_; clear HF; intro _ HF
      refine sl_const HF rfl rfl (.inr rfl) (by decide) ?_; clear HF; intro _ HF
      refine sl_const HF rfl rfl (.inr rfl) (by decide) ?_; clear HF; intro _ HF
      refine sl_nil (wp_ret ?_)
      dsimp only [Exit.then, Exit.inBlock]
      have HF2 := HF.keep [2, 3, 4]
      simp only [pick, look] at HF2
      exact HBAD.out _ _ HF2 HM.out
  · have hd : decide ((k : Int) < (m : Int)) = false := by simp; omega
    refine wp_seq (wp_seq (wp_region_lit ?_))
    refine sl_move HF rfl rfl (.inl rfl) (by decide) rfl ?_; clear HF; intro _ HF
    refine sl_move HF rfl rfl (.inl rfl) (by decide) rfl ?_; clear HF; intro _ HF
    refine sl_op HF rfl rfl (by decide) ?_; intro K hK; have e101 := HF.see 101 rfl; go_wp2_with fail; clear e101 HF; intro _ HF
    refine sl_op HF rfl rfl (by decide) ?_; intro K hK; have e100 := HF.see 100 rfl; have e102 := HF.see 102 rfl; go_wp2_with fail; clear e100 e102 HF; intro _ HF
    refine sl_nil (wp_cond_false (HF.at 103 rfl) (wp_exit ?_))
    dsimp only [Exit.then]
    refine sl_exit ?_
    have HF2 := HF.keep [1, 5, 6, 8, 9, 10]
    simp only [pick, look] at HF2
    refine HOK.out _ _ o ag HF2 HI.out (fun h => ?_) HU.out HAT.out HB.out HM.out
    obtain ⟨h1, h2, h3⟩ := HAG.out h
    refine ⟨h1, h2, fun t ht => ?_⟩
    obtain ⟨j, hj⟩ := List.getElem?_of_mem ht
    exact h3 j t (by have := (List.getElem?_eq_some_iff.1 hj).1; rw [HMM.out] at this; omega) hj
end Go.Proofs.YtefloadjolpgbaaDoor
