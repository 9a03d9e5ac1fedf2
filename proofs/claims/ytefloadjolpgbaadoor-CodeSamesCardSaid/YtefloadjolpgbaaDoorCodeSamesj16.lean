/- Parts of the proof of CodeSames, joined: Csy. -/
import Derived.Test.YtefloadjolpgbaaDoorCodeSamesj15
namespace Go.Proofs.YtefloadjolpgbaaDoor
open Go.RowKit

theorem codeEq_comm (a b : CodeT) : codeEq b a = codeEq a b := by
  by_cases h : a = b
  · rw [codeEq_true h, codeEq_true h.symm]
  · rw [codeEq_false h, codeEq_false (fun e => h e.symm)]

noncomputable def cssBody : Code := (Tryd.f4.body).getD .skip
noncomputable def csVs (a b : CodeT) : Nat → Value
  | 0 => .bool (codeEq a b)
  | 1 => .bool (codeEq a b)
  | 2 => .bool true
  | 3 => .bool (codeEq a b)
  | _ => .bool (codeEq a b)

set_option maxHeartbeats 3200000 in
set_option maxRecDepth 100000 in
theorem codeSames_any (a b : CodeT) (ca cb : List Value) (w : World) (ha : CodeC w a ca) (hb : CodeC w b cb) :
    Calls Tryd.prog 4 #[.agg ca.toArray, .agg cb.toArray] w fun e w' => e = .returned (.bool true) ∧ Mod Nil w w' := by
  obtain ⟨va, hva, _⟩ := ha.view
  obtain ⟨vb, hvb, _⟩ := hb.view
  have hca : ca = (codeArr a va).toList := by rw [← hva]
  have hcb : cb = (codeArr b vb).toList := by rw [← hvb]
  subst hca hcb
  rw [Array.toArray_toList, Array.toArray_toList]
  have HA := Lib.hid ha
  have HB := Lib.hid hb
  clear ha hb hva hvb
  refine sl_enter (n := 39) (fn := Tryd.f4) (c := cssBody) Tryd.func4 rfl rfl (by simp) fun ac HF => ?_
  conv => arg 2; whnf
  refine wp_seq (wp_region_lit ?_)
  refine sl_op HF rfl rfl (by decide) ?_; intro K hK; have e0 := HF.see 0 rfl; go_wp2_with fail; clear e0 HF; intro _ HF
  refine sl_op HF rfl rfl (by decide) ?_; intro K hK; have e1 := HF.see 1 rfl; go_wp2_with fail; clear e1 HF; intro _ HF
  refine sl_const HF rfl rfl (.inr rfl) (by decide) ?_; clear HF; intro _ HF
  have hb1 : Blk (w.alloc (.cells (codeArr a va) 26)) w.heap.size 26 (codeArr a va) := Blk.new _ _ _
  have hm1 := (Mod.refl Nil w).alloc (.cells (codeArr a va) 26)
  have hs1 : (w.alloc (.cells (codeArr a va) 26)).heap.size = w.heap.size + 1 := by simp
  rw [← hs1] at HF
  generalize w.alloc (.cells (codeArr a va) 26) = w1 at hb1 hm1 HF ⊢
  generalize w.heap.size = g2 at hb1 HF hs1
  have hb2 : Blk (w1.alloc (.cells (codeArr b vb) 26)) w1.heap.size 26 (codeArr b vb) := Blk.new _ _ _
  have hmn := (Mod.refl Nil w1).alloc (.cells (codeArr b vb) 26)
  have H2 := Lib.hid (hb1.keep hmn id)
  have HM := Lib.hid (hm1.trans hmn)
  generalize w1.alloc (.cells (codeArr b vb) 26) = w2 at hb2 H2 HM ⊢
  generalize w1.heap.size = g3 at hb2 HF
  have H3 := Lib.hid hb2
  clear hb1 hm1 hs1 hmn hb2
  have HF2 := HF.keep [2, 3]
  simp only [pick, look] at HF2
  clear HF
  have HF := HF2
  clear HF2
  refine sl_nil (wp_seq (wp_seq (wp_region_lit ?_)))
  refine sl_op HF rfl rfl (by decide) ?_; intro K hK; go_wp2_with fail
  refine (awake15_any _).mono ?_
  rintro e w3 ⟨rfl, hm3⟩
  have HM3 := Lib.hid (HM.out.trans hm3)
  have H23 := Lib.hid (H2.out.keep hm3 id)
  have H33 := Lib.hid (H3.out.keep hm3 id)
  clear hm3 HM H2 H3
  go_wp2_with fail; clear HF; intro _ HF
  obtain ⟨a0, a1, a2, a3, a4, a5⟩ := code_boxed H23.out
  obtain ⟨b0, b1, b2, b3, b4, b5⟩ := code_boxed H33.out
  have HSA := Lib.hid (small_any a w3 _ (HA.out.keep HM3.out))
  rw [Array.toArray_toList] at HSA
  unfold codeArr at HSA
  refine sl_op HF rfl rfl (by decide) ?_; intro K hK; have e5 := HF.see 5 rfl; go_wp2_with fail; clear e5 HF; intro _ HF
  refine sl_move HF rfl rfl (.inl rfl) (by decide) rfl ?_; clear HF; intro _ HF
  refine sl_want HF rfl rfl rfl rfl (by decide) ?_; intro K hK; have e2 := HF.see 2 rfl; go_wp2_with fail; clear e2 HF; intro _ HF
  refine sl_want HF rfl rfl rfl rfl (by decide) ?_; intro K hK; have e8 := HF.see 8 rfl; go_wp2_with fail
  refine HSA.out.mono ?_
  rintro e w4 ⟨⟨ra, rfl, hra⟩, hm4⟩
  have HM4 := Lib.hid (HM3.out.trans hm4)
  have H24 := Lib.hid (H23.out.keep hm4 id)
  have H34 := Lib.hid (H33.out.keep hm4 id)
  have HRA := Lib.hid hra
  clear hm4 hra HM3 H23 H33 HSA a0 a1 a2 a3 a4 a5 b0 b1 b2 b3 b4 b5
  go_wp2_with fail; clear e8 HF; intro _ HF
  rcases ra with _ | _
  · skip
    refine sl_want HF rfl rfl rfl rfl (by decide) ?_; intro K hK; have e9 := HF.see 9 rfl; go_wp2_with fail; clear e9 HF; intro _ HF
    refine sl_op HF rfl rfl (by decide) ?_; intro K hK; have e7 := HF.see 7 rfl; have e10 := HF.see 10 rfl; go_wp2_with fail; clear e7 e10 HF; intro _ HF
    refine sl_move HF rfl rfl (.inl rfl) (by decide) rfl ?_; clear HF; intro _ HF
    refine sl_skip HF rfl rfl rfl rfl (by decide) ?_; clear HF; intro _ HF
    refine sl_skip HF rfl rfl rfl rfl (by decide) ?_; clear HF; intro _ HF
    refine sl_skip HF rfl rfl rfl rfl (by decide) ?_; clear HF; intro _ HF
    refine sl_op HF rfl rfl (by decide) ?_; intro K hK; have e12 := HF.see 12 rfl; have e15 := HF.see 15 rfl; go_wp2_with fail; clear e12 e15 HF; intro _ HF
    refine sl_nil (wp_cond_true (HF.at 16 rfl) (wp_seq (wp_region_lit ?_)))
    refine sl_op HF rfl rfl (by decide) ?_; intro K hK; go_wp2_with fail
    refine (awake15_any _).mono ?_
    rintro e w5 ⟨rfl, hm5⟩
    have HM5 := Lib.hid (HM4.out.trans hm5)
    clear hm5
    go_wp2_with fail; clear HF; intro _ HF
    refine sl_move HF rfl rfl (.inr rfl) (by decide) rfl ?_; clear HF; intro _ HF
    refine sl_nil (wp_ret ?_)
    dsimp only [Exit.then]
    exact sl_ret1 HF rfl rfl ⟨rfl, HM5.out⟩
  have hda := HRA.out rfl
  have HSB := Lib.hid (small_any b w4 _ (HB.out.keep HM4.out))
  rw [Array.toArray_toList] at HSB
  unfold codeArr at HSB
  obtain ⟨a0, a1, a2, a3, a4, a5⟩ := code_boxed H24.out
  obtain ⟨b0, b1, b2, b3, b4, b5⟩ := code_boxed H34.out
  refine sl_want HF rfl rfl rfl rfl (by decide) ?_; intro K hK; have e9 := HF.see 9 rfl; go_wp2_with fail; clear e9 HF; intro _ HF
  refine sl_op HF rfl rfl (by decide) ?_; intro K hK; have e7 := HF.see 7 rfl; have e10 := HF.see 10 rfl; go_wp2_with fail; clear e7 e10 HF; intro _ HF
  refine sl_move HF rfl rfl (.inl rfl) (by decide) rfl ?_; clear HF; intro _ HF
  refine sl_want HF rfl rfl rfl rfl (by decide) ?_; intro K hK; have e3 := HF.see 3 rfl; go_wp2_with fail; clear e3 HF; intro _ HF
  refine sl_want HF rfl rfl rfl rfl (by decide) ?_; intro K hK; have e13 := HF.see 13 rfl; go_wp2_with fail
  refine HSB.out.mono ?_
  rintro e w5 ⟨⟨rb, rfl, hrb⟩, hm5⟩
  have HM5 := Lib.hid (HM4.out.trans hm5)
  have H25 := Lib.hid (H24.out.keep hm5 id)
  have H35 := Lib.hid (H34.out.keep hm5 id)
  have HRB := Lib.hid hrb
  clear hm5 hrb HM4 H24 H34 HSB HRA a0 a1 a2 a3 a4 a5 b0 b1 b2 b3 b4 b5
  go_wp2_with fail; clear e13 HF; intro _ HF
  rcases rb with _ | _
  · skip
    refine sl_want HF rfl rfl rfl rfl (by decide) ?_; intro K hK; have e14 := HF.see 14 rfl; go_wp2_with fail; clear e14 HF; intro _ HF
    refine sl_op HF rfl rfl (by decide) ?_; intro K hK; have e12 := HF.see 12 rfl; have e15 := HF.see 15 rfl; go_wp2_with fail; clear e12 e15 HF; intro _ HF
    refine sl_nil (wp_cond_true (HF.at 16 rfl) (wp_seq (wp_region_lit ?_)))
    refine sl_op HF rfl rfl (by decide) ?_; intro K hK; go_wp2_with fail
    refine (awake15_any _).mono ?_
    rintro e w6 ⟨rfl, hm6⟩
    have HM6 := Lib.hid (HM5.out.trans hm6)
    clear hm6
    go_wp2_with fail; clear HF; intro _ HF
    refine sl_move HF rfl rfl (.inr rfl) (by decide) rfl ?_; clear HF; intro _ HF
    refine sl_nil (wp_ret ?_)
    dsimp only [Exit.then]
    exact sl_ret1 HF rfl rfl ⟨rfl, HM6.out⟩
  have hdb := HRB.out rfl
  refine sl_want HF rfl rfl rfl rfl (by decide) ?_; intro K hK; have e14 := HF.see 14 rfl; go_wp2_with fail; clear e14 HF; intro _ HF
  refine sl_op HF rfl rfl (by decide) ?_; intro K hK; have e12 := HF.see 12 rfl; have e15 := HF.see 15 rfl; go_wp2_with fail; clear e12 e15 HF; intro _ HF
  refine sl_nil (wp_cond_false (HF.at 16 rfl) (wp_skip (sl_then (wp_seq ?_))))
  have HF2 := HF.keep [2, 3]
  simp only [pick, look] at HF2
  clear HF
  have HF := HF2
  clear HF2
  obtain ⟨W, hW⟩ : ∃ W, W = w5.drew := ⟨_, rfl⟩
  have HW := Lib.hid hW
  have HMW := Lib.hid (show Mod Nil w W from hW ▸ HM5.out.trans ((Mod.refl Nil w5).drew))
  have HAW := Lib.hid (show ∀ w', Mod Nil W w' → _ from fun w' h => code_boxed ((show Blk W g2 26 (codeArr a va) by rw [hW]; exact H25.out).keep h id))
  have HBW := Lib.hid (show ∀ w', Mod Nil W w' → _ from fun w' h => code_boxed ((show Blk W g3 26 (codeArr b vb) by rw [hW]; exact H35.out).keep h id))
  have HCA := Lib.hid (fun w' (h : Mod Nil W w') => HA.out.keep (HMW.out.trans h))
  have HCB := Lib.hid (fun w' (h : Mod Nil W w') => HB.out.keep (HMW.out.trans h))
  clear hW HM5 H25 H35 HA HB HRB
  have HSS := Lib.hid (fun (x y : CodeT) (vx vy : CodeV) (w' : World) (hx : x.deep < 60) (h1 : CodeC w' x (codeArr x vx).toList) (h2 : CodeC w' y (codeArr y vy).toList) => codeSame_any x y w' _ _ (by omega) h1 h2)
  have HRS := Lib.hid (fun (w' : World) (h1 : CodeC w' a (codeArr a va).toList) (h2 : CodeC w' b (codeArr b vb).toList) => rcSame_any _ a (Nat.le_refl _) b w' _ _ h1 h2)
  simp only [Array.toArray_toList] at HSS HRS
  apply sl_flow6 (N := 5) [some 18, some 19, some 20, some 21, some 22, some 23, some 24, some 25, some 26, some 27, some 28, some 29, some 30, some 31, some 32, some 33, some 34, some 35, some 36, some 37, some 38, some 4] [.quiet [] [0, 1, 2, 3, 4], .quiet [] [0, 1, 2, 3, 4], .writes 0 [] [1, 2, 3, 4], .quiet [] [1, 2, 3, 4], .quiet [] [1, 2, 3, 4], .writes 1 [0] [2, 3, 4], .quiet [0, 1] [2, 3, 4], .quiet [0, 1] [2, 3, 4], .quiet [0, 1] [2, 3, 4], .quiet [0, 1] [2, 3, 4], .writes 2 [0, 1] [3, 4], .quiet [0, 1, 2] [3, 4], .quiet [0, 1, 2] [3, 4], .quiet [0, 1, 2] [3, 4], .quiet [0, 1, 2] [3, 4], .writes 3 [0, 1, 2] [4], .quiet [0, 1, 2] [4], .quiet [0, 1, 2] [4], .writes 4 [0, 1, 2, 3] [], .quiet [0, 1, 2, 3, 4] [], .quiet [0, 1, 2, 3, 4] [], .quiet [0, 1, 2, 3, 4] []] (PhK W (csVs a b)) [_, _, (fun h => h 0), _, _, (fun h => h 1), _, _, _, _, (fun h => h 2), _, _, _, _, (fun h => h 3), _, _, (fun h => h 4), _, _, _] HF
  case hm => kernel_rfl
  case hok => kernel_rfl
  case hfl => rfl
  case h0 => exact (fun h => HW.out ▸ PhK.init h)
  case hobs =>
    apply And.intro
    · apply obm_quiet
      case hg => rfl
      case hop =>
        intro ax wx h S hD hE hP hk K hK
        have e2 := hk.see 2 rfl rfl
        have n0 := hE 0 (by decide)
        have n1 := hE 1 (by decide)
        have n2 := hE 2 (by decide)
        have n3 := hE 3 (by decide)
        have n4 := hE 4 (by decide)
        clear hk hD hE
        obtain ⟨a0, a1, a2, a3, a4, a5⟩ := HAW.out _ hP.mod
        obtain ⟨b0, b1, b2, b3, b4, b5⟩ := HBW.out _ hP.mod
        go_wp2_with fail
        all_goals first | exact hP | rfl
      case hst => exact fun h h' e => rfl
    apply And.intro
    · apply obm_quiet
      case hg => rfl
      case hop =>
        intro ax wx h S hD hE hP hk K hK
        have e3 := hk.see 3 rfl rfl
        have n0 := hE 0 (by decide)
        have n1 := hE 1 (by decide)
        have n2 := hE 2 (by decide)
        have n3 := hE 3 (by decide)
        have n4 := hE 4 (by decide)
        clear hk hD hE
        obtain ⟨a0, a1, a2, a3, a4, a5⟩ := HAW.out _ hP.mod
        obtain ⟨b0, b1, b2, b3, b4, b5⟩ := HBW.out _ hP.mod
        go_wp2_with fail
        all_goals first | exact hP | rfl
      case hst => exact fun h h' e => rfl
    refine And.intro (obm_writes rfl ?op) ?_
    case op =>
      intro ax wx h S hD hE hS hP hk K hK
      have e18 := hk.see 18 rfl rfl
      have e19 := hk.see 19 rfl rfl
      have n1 := hE 1 (by decide)
      have n2 := hE 2 (by decide)
      have n3 := hE 3 (by decide)
      have n4 := hE 4 (by decide)
      clear hk hD hE
      have HP := Lib.hid hP
      have HC := Lib.hid (HSS.out a b va vb wx hda (HCA.out _ hP.mod) (HCB.out _ hP.mod))
      unfold codeArr at HC
      clear hP
      go_wp2_with fail
      refine HC.out.mono ?_
      rintro e w' ⟨rfl, hm⟩
      exact hK _ _ (HP.out.step hm rfl)
    apply And.intro
    · apply obm_quiet
      case hg => rfl
      case hop =>
        intro ax wx h S hD hE hP hk K hK
        have e2 := hk.see 2 rfl rfl
        have n1 := hE 1 (by decide)
        have n2 := hE 2 (by decide)
        have n3 := hE 3 (by decide)
        have n4 := hE 4 (by decide)
        clear hk hD hE
        obtain ⟨a0, a1, a2, a3, a4, a5⟩ := HAW.out _ hP.mod
        obtain ⟨b0, b1, b2, b3, b4, b5⟩ := HBW.out _ hP.mod
        go_wp2_with fail
        all_goals first | exact hP | rfl
      case hst => exact fun h h' e => rfl
    apply And.intro
    · apply obm_quiet
      case hg => rfl
      case hop =>
        intro ax wx h S hD hE hP hk K hK
        have e3 := hk.see 3 rfl rfl
        have n1 := hE 1 (by decide)
        have n2 := hE 2 (by decide)
        have n3 := hE 3 (by decide)
        have n4 := hE 4 (by decide)
        clear hk hD hE
        obtain ⟨a0, a1, a2, a3, a4, a5⟩ := HAW.out _ hP.mod
        obtain ⟨b0, b1, b2, b3, b4, b5⟩ := HBW.out _ hP.mod
        go_wp2_with fail
        all_goals first | exact hP | rfl
      case hst => exact fun h h' e => rfl
    refine And.intro (obm_writes rfl ?op) ?_
    case op =>
      intro ax wx h S hD hE hS hP hk K hK
      have e21 := hk.see 21 rfl rfl
      have e22 := hk.see 22 rfl rfl
      have d0 := hD 0 (by decide)
      have n2 := hE 2 (by decide)
      have n3 := hE 3 (by decide)
      have n4 := hE 4 (by decide)
      clear hk hD hE
      have HP := Lib.hid hP
      have HC := Lib.hid (HRS.out wx (HCA.out _ hP.mod) (HCB.out _ hP.mod))
      unfold codeArr at HC
      clear hP
      go_wp2_with fail
      refine HC.out.mono ?_
      rintro e w' ⟨rfl, hm⟩
      exact hK _ _ (HP.out.step hm rfl)
    apply And.intro
    · apply obm_quiet
      case hg => rfl
      case hop =>
        intro ax wx h S hD hE hP hk K hK
        have e20 := hk.see 20 rfl rfl
        have e23 := hk.see 23 rfl rfl
        try dsimp only at e20 e23
        have d0 := hD 0 (by decide)
        have d1 := hD 1 (by decide)
        have n2 := hE 2 (by decide)
        have n3 := hE 3 (by decide)
        have n4 := hE 4 (by decide)
        clear hk hD hE
        rw [hP.val 0 d0] at e20
        rw [hP.val 1 d1] at e23
        simp only [csVs] at e20 e23
        go_wp2_with fail
        all_goals first | exact hP | rfl
      case hst => exact fun h h' e => by first | rfl | simp only [e 0 (by decide)] | simp only [e 1 (by decide)] | simp only [e 0 (by decide), e 1 (by decide)]
    apply And.intro
    · apply obm_quiet
      case hg => rfl
      case hop =>
        intro ax wx h S hD hE hP hk K hK
        have e24 := hk.see 24 rfl rfl
        try dsimp only at e24
        have d0 := hD 0 (by decide)
        have d1 := hD 1 (by decide)
        have n2 := hE 2 (by decide)
        have n3 := hE 3 (by decide)
        have n4 := hE 4 (by decide)
        clear hk hD hE
        go_wp2_with fail
        all_goals first | exact hP | rfl
      case hst => exact fun h h' e => by first | rfl | simp only [e 0 (by decide)] | simp only [e 1 (by decide)] | simp only [e 0 (by decide), e 1 (by decide)]
    apply And.intro
    · apply obm_want
      case hg => rfl
      case hj => rfl
      case hv => exact fun _ => rfl
      case hop =>
        intro ax wx h S hD hE hP hk K hK
        have e2 := hk.see 2 rfl rfl
        have d0 := hD 0 (by decide)
        have d1 := hD 1 (by decide)
        have n2 := hE 2 (by decide)
        have n3 := hE 3 (by decide)
        have n4 := hE 4 (by decide)
        clear hk hD hE
        obtain ⟨a0, a1, a2, a3, a4, a5⟩ := HAW.out _ hP.mod
        obtain ⟨b0, b1, b2, b3, b4, b5⟩ := HBW.out _ hP.mod
        go_wp2_with fail
        all_goals first | exact hP | rfl
      case hst => exact fun h h' e => by first | rfl | simp only [e 0 (by decide)] | simp only [e 1 (by decide)] | simp only [e 0 (by decide), e 1 (by decide)]
    apply And.intro
    · apply obm_want
      case hg => rfl
      case hj => rfl
      case hv => exact fun _ => rfl
      case hop =>
        intro ax wx h S hD hE hP hk K hK
        have e2 := hk.see 2 rfl rfl
        have d0 := hD 0 (by decide)
        have d1 := hD 1 (by decide)
        have n2 := hE 2 (by decide)
        have n3 := hE 3 (by decide)
        have n4 := hE 4 (by decide)
        clear hk hD hE
        obtain ⟨a0, a1, a2, a3, a4, a5⟩ := HAW.out _ hP.mod
        obtain ⟨b0, b1, b2, b3, b4, b5⟩ := HBW.out _ hP.mod
        go_wp2_with fail
        all_goals first | exact hP | rfl
      case hst => exact fun h h' e => by first | rfl | simp only [e 0 (by decide)] | simp only [e 1 (by decide)] | simp only [e 0 (by decide), e 1 (by decide)]
    refine And.intro (obm_writes_want rfl rfl (fun _ => rfl) ?op) ?_
    case op =>
      intro ax wx h S hD hE hS hP hk K hK
      have e26 := hk.see 26 rfl rfl
      have e27 := hk.see 27 rfl rfl
      try dsimp only at e26 e27
      have d0 := hD 0 (by decide)
      have d1 := hD 1 (by decide)
      have n3 := hE 3 (by decide)
      have n4 := hE 4 (by decide)
      clear hk hD hE
      have HP := Lib.hid hP
      have HC := Lib.hid (HSS.out a a va va wx hda (HCA.out _ hP.mod) (HCA.out _ hP.mod))
      unfold codeArr at HC
      clear hP
      go_wp2_with fail
      refine HC.out.mono ?_
      rintro e w' ⟨rfl, hm⟩
      exact hK _ _ (HP.out.step hm (by rw [codeEq_true rfl]; rfl))
    apply And.intro
    · apply obm_quiet
      case hg => rfl
      case hop =>
        intro ax wx h S hD hE hP hk K hK
        have e25 := hk.see 25 rfl rfl
        have e28 := hk.see 28 rfl rfl
        try dsimp only at e25 e28
        have d0 := hD 0 (by decide)
        have d1 := hD 1 (by decide)
        have d2 := hD 2 (by decide)
        have n3 := hE 3 (by decide)
        have n4 := hE 4 (by decide)
        clear hk hD hE
        rw [hP.val 2 d2] at e28
        simp only [csVs] at e28
        go_wp2_with fail
        all_goals first | exact hP | rfl
      case hst => exact fun h h' e => by first | rfl | simp only [e 0 (by decide)] | simp only [e 1 (by decide)] | simp only [e 2 (by decide)] | simp only [e 0 (by decide), e 1 (by decide), e 2 (by decide)]
    apply And.intro
    · apply obm_quiet
      case hg => rfl
      case hop =>
        intro ax wx h S hD hE hP hk K hK
        have e29 := hk.see 29 rfl rfl
        try dsimp only at e29
        have d0 := hD 0 (by decide)
        have d1 := hD 1 (by decide)
        have d2 := hD 2 (by decide)
        have n3 := hE 3 (by decide)
        have n4 := hE 4 (by decide)
        clear hk hD hE
        go_wp2_with fail
        all_goals first | exact hP | rfl
      case hst => exact fun h h' e => by first | rfl | simp only [e 0 (by decide)] | simp only [e 1 (by decide)] | simp only [e 2 (by decide)] | simp only [e 0 (by decide), e 1 (by decide), e 2 (by decide)]
    apply And.intro
    · apply obm_want
      case hg => rfl
      case hj => rfl
      case hv => exact fun _ => rfl
      case hop =>
        intro ax wx h S hD hE hP hk K hK
        have e3 := hk.see 3 rfl rfl
        have d0 := hD 0 (by decide)
        have d1 := hD 1 (by decide)
        have d2 := hD 2 (by decide)
        have n3 := hE 3 (by decide)
        have n4 := hE 4 (by decide)
        clear hk hD hE
        obtain ⟨a0, a1, a2, a3, a4, a5⟩ := HAW.out _ hP.mod
        obtain ⟨b0, b1, b2, b3, b4, b5⟩ := HBW.out _ hP.mod
        go_wp2_with fail
        all_goals first | exact hP | rfl
      case hst => exact fun h h' e => by first | rfl | simp only [e 0 (by decide)] | simp only [e 1 (by decide)] | simp only [e 2 (by decide)] | simp only [e 0 (by decide), e 1 (by decide), e 2 (by decide)]
    apply And.intro
    · apply obm_want
      case hg => rfl
      case hj => rfl
      case hv => exact fun _ => rfl
      case hop =>
        intro ax wx h S hD hE hP hk K hK
        have e2 := hk.see 2 rfl rfl
        have d0 := hD 0 (by decide)
        have d1 := hD 1 (by decide)
        have d2 := hD 2 (by decide)
        have n3 := hE 3 (by decide)
        have n4 := hE 4 (by decide)
        clear hk hD hE
        obtain ⟨a0, a1, a2, a3, a4, a5⟩ := HAW.out _ hP.mod
        obtain ⟨b0, b1, b2, b3, b4, b5⟩ := HBW.out _ hP.mod
        go_wp2_with fail
        all_goals first | exact hP | rfl
      case hst => exact fun h h' e => by first | rfl | simp only [e 0 (by decide)] | simp only [e 1 (by decide)] | simp only [e 2 (by decide)] | simp only [e 0 (by decide), e 1 (by decide), e 2 (by decide)]
    refine And.intro (obm_writes_want rfl rfl (fun _ => rfl) ?op) ?_
    case op =>
      intro ax wx h S hD hE hS hP hk K hK
      have e31 := hk.see 31 rfl rfl
      have e32 := hk.see 32 rfl rfl
      try dsimp only at e31 e32
      have d0 := hD 0 (by decide)
      have d1 := hD 1 (by decide)
      have d2 := hD 2 (by decide)
      have n4 := hE 4 (by decide)
      clear hk hD hE
      have HP := Lib.hid hP
      have HC := Lib.hid (HSS.out b a vb va wx hdb (HCB.out _ hP.mod) (HCA.out _ hP.mod))
      unfold codeArr at HC
      clear hP
      go_wp2_with fail
      refine HC.out.mono ?_
      rintro e w' ⟨rfl, hm⟩
      exact hK _ _ (HP.out.step hm (by rw [codeEq_comm]; rfl))
    apply And.intro
    · apply obm_want
      case hg => rfl
      case hj => rfl
      case hv => exact fun _ => rfl
      case hop =>
        intro ax wx h S hD hE hP hk K hK
        have e2 := hk.see 2 rfl rfl
        have d0 := hD 0 (by decide)
        have d1 := hD 1 (by decide)
        have d2 := hD 2 (by decide)
        have n4 := hE 4 (by decide)
        clear hk hD hE
        obtain ⟨a0, a1, a2, a3, a4, a5⟩ := HAW.out _ hP.mod
        obtain ⟨b0, b1, b2, b3, b4, b5⟩ := HBW.out _ hP.mod
        go_wp2_with fail
        all_goals first | exact hP | rfl
      case hst => exact fun h h' e => by first | rfl | simp only [e 0 (by decide)] | simp only [e 1 (by decide)] | simp only [e 2 (by decide)] | simp only [e 0 (by decide), e 1 (by decide), e 2 (by decide)]
    apply And.intro
    · apply obm_want
      case hg => rfl
      case hj => rfl
      case hv => exact fun _ => rfl
      case hop =>
        intro ax wx h S hD hE hP hk K hK
        have e3 := hk.see 3 rfl rfl
        have d0 := hD 0 (by decide)
        have d1 := hD 1 (by decide)
        have d2 := hD 2 (by decide)
        have n4 := hE 4 (by decide)
        clear hk hD hE
        obtain ⟨a0, a1, a2, a3, a4, a5⟩ := HAW.out _ hP.mod
        obtain ⟨b0, b1, b2, b3, b4, b5⟩ := HBW.out _ hP.mod
        go_wp2_with fail
        all_goals first | exact hP | rfl
      case hst => exact fun h h' e => by first | rfl | simp only [e 0 (by decide)] | simp only [e 1 (by decide)] | simp only [e 2 (by decide)] | simp only [e 0 (by decide), e 1 (by decide), e 2 (by decide)]
    refine And.intro (obm_writes_want rfl rfl (fun _ => rfl) ?op) ?_
    case op =>
      intro ax wx h S hD hE hS hP hk K hK
      have e34 := hk.see 34 rfl rfl
      have e35 := hk.see 35 rfl rfl
      try dsimp only at e34 e35
      have d0 := hD 0 (by decide)
      have d1 := hD 1 (by decide)
      have d2 := hD 2 (by decide)
      have d3 := hD 3 (by decide)
      clear hk hD hE
      have HP := Lib.hid hP
      have HC := Lib.hid (HSS.out a b va vb wx hda (HCA.out _ hP.mod) (HCB.out _ hP.mod))
      unfold codeArr at HC
      clear hP
      go_wp2_with fail
      refine HC.out.mono ?_
      rintro e w' ⟨rfl, hm⟩
      exact hK _ _ (HP.out.step hm rfl)
    apply And.intro
    · apply obm_want
      case hg => rfl
      case hj => rfl
      case hv => exact fun _ => rfl
      case hop =>
        intro ax wx h S hD hE hP hk K hK
        have e33 := hk.see 33 rfl rfl
        have e36 := hk.see 36 rfl rfl
        try dsimp only at e33 e36
        have d0 := hD 0 (by decide)
        have d1 := hD 1 (by decide)
        have d2 := hD 2 (by decide)
        have d3 := hD 3 (by decide)
        have d4 := hD 4 (by decide)
        clear hk hD hE
        rw [hP.val 3 d3] at e33
        rw [hP.val 4 d4] at e36
        simp only [csVs] at e33 e36
        go_wp2_with fail
        all_goals first | exact hP | rfl
      case hst => exact fun h h' e => by first | rfl | simp only [e 0 (by decide)] | simp only [e 1 (by decide)] | simp only [e 2 (by decide)] | simp only [e 3 (by decide)] | simp only [e 4 (by decide)] | simp only [e 0 (by decide), e 1 (by decide), e 2 (by decide), e 3 (by decide), e 4 (by decide)]
    apply And.intro
    · apply obm_quiet
      case hg => rfl
      case hop =>
        intro ax wx h S hD hE hP hk K hK
        have e30 := hk.see 30 rfl rfl
        have e37 := hk.see 37 rfl rfl
        try dsimp only at e30 e37
        have d0 := hD 0 (by decide)
        have d1 := hD 1 (by decide)
        have d2 := hD 2 (by decide)
        have d3 := hD 3 (by decide)
        have d4 := hD 4 (by decide)
        clear hk hD hE
        go_wp2_with fail
        all_goals first | exact hP | rfl
      case hst => exact fun h h' e => by first | rfl | simp only [e 0 (by decide)] | simp only [e 1 (by decide)] | simp only [e 2 (by decide)] | simp only [e 3 (by decide)] | simp only [e 4 (by decide)] | simp only [e 0 (by decide), e 1 (by decide), e 2 (by decide), e 3 (by decide), e 4 (by decide)]
    apply And.intro
    · apply obm_quiet
      case hg => rfl
      case hop =>
        intro ax wx h S hD hE hP hk K hK
        have e38 := hk.see 38 rfl rfl
        try dsimp only at e38
        have d0 := hD 0 (by decide)
        have d1 := hD 1 (by decide)
        have d2 := hD 2 (by decide)
        have d3 := hD 3 (by decide)
        have d4 := hD 4 (by decide)
        clear hk hD hE
        go_wp2_with fail
        all_goals first | exact hP | rfl
      case hst => exact fun h h' e => by first | rfl | simp only [e 0 (by decide)] | simp only [e 1 (by decide)] | simp only [e 2 (by decide)] | simp only [e 3 (by decide)] | simp only [e 4 (by decide)] | simp only [e 0 (by decide), e 1 (by decide), e 2 (by decide), e 3 (by decide), e 4 (by decide)]
    exact trivial
  intro w6 a6 h S hall hP HF
  have HM6 := Lib.hid (HMW.out.trans hP.mod)
  exact wp_ret (sl_ret1 HF rfl rfl ⟨rfl, HM6.out⟩)
end Go.Proofs.YtefloadjolpgbaaDoor
