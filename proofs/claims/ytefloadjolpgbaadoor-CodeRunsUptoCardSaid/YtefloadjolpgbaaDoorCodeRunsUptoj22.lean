/- Parts of the proof of CodeRunsUpto, joined: Crw. -/
import Derived.Test.YtefloadjolpgbaaDoorCodeRunsUptoj21
namespace Go.Proofs.YtefloadjolpgbaaDoor
open Go.RowKit

/-- So many steps gone. -/
def CrI (c : CodeT) (g2 g5 n nw cw : Nat) (A : Option Addr) (wb : World) (ac : Act) (w : World) : Prop :=
  ∃ (p i : Nat) (hh : Int), Sl 131 [(1, .slice A nw cw), (2, .pointer (some ⟨g2, 0, none⟩)), (5, .slice (some ⟨g5, 0, none⟩) n n), (6, .int .i64 (p : Nat)), (7, .int .i64 hh), (8, .int .i64 (i : Nat))] ac ∧ i ≤ nw ∧ hh ≤ 4000 ∧ (∀ f, Fits c.ins f → f p = some hh) ∧ Mod Nil wb w

set_option maxHeartbeats 3200000 in
set_option maxRecDepth 100000 in
theorem codeRuns_any (c : CodeT) (cs : List Value) (A : Option Addr) (nw cw : Nat) (ws : List Bool) (w : World) (hc : CodeC w c cs) (ht : TxtP c) (hw : ws.length = nw) (hcw : nw ≤ cw) (hcw2 : cw ≤ 9223372036854775807) (hr : Rd All w A (ws.map Value.bool)) :
    Calls Tryd.prog 3 #[.agg cs.toArray, .slice A nw cw] w fun e w' => e = .returned (.bool true) ∧ Mod Nil w w' := by
  obtain ⟨v, hv, _⟩ := hc.view
  have hcs : cs = (codeArr c v).toList := by rw [← hv]
  subst hcs
  rw [Array.toArray_toList]
  have HA := Lib.hid hc
  have HT := Lib.hid ht
  have HR := Lib.hid hr
  have HWN := Lib.hid hw
  clear hc ht hr hw hv
  refine sl_enter (n := 131) (fn := Tryd.f3) (c := crnBody) Tryd.func3 rfl rfl (by simp) fun ac HF => ?_
  conv => arg 2; whnf
  refine wp_seq (wp_region_lit ?_)
  refine sl_op HF rfl rfl (by decide) ?_; intro K hK; have e0 := HF.see 0 rfl; go_wp2_with fail; clear e0 HF; intro _ HF
  refine sl_const HF rfl rfl (.inr rfl) (by decide) ?_; clear HF; intro _ HF
  have hb1 : Blk (w.alloc (.cells (codeArr c v) 26)) w.heap.size 26 (codeArr c v) := Blk.new _ _ _
  have hm1 := (Mod.refl Nil w).alloc (.cells (codeArr c v) 26)
  generalize w.alloc (.cells (codeArr c v) 26) = w1 at hb1 hm1 ⊢
  generalize w.heap.size = g2 at hb1 HF
  have HM := Lib.hid hm1
  have H2 := Lib.hid hb1
  clear hb1 hm1
  have HF2 := HF.keep [1, 2]
  simp only [pick, look, argL] at HF2
  clear HF
  have HF := HF2
  clear HF2
  refine sl_nil (wp_seq (wp_seq (wp_region_lit ?_)))
  refine sl_op HF rfl rfl (by decide) ?_; intro K hK; go_wp2_with fail
  refine (awake15_any _).mono ?_
  rintro e w3 ⟨rfl, hm3⟩
  have HM3 := Lib.hid (HM.out.trans hm3)
  have H23 := Lib.hid (H2.out.keep hm3 id)
  clear hm3 HM H2
  go_wp2_with fail; clear HF; intro _ HF
  obtain ⟨a0, a1, a2, a3, a4, a5⟩ := code_boxed H23.out
  have HSA := Lib.hid (small_any c w3 _ (HA.out.keep HM3.out))
  rw [Array.toArray_toList] at HSA
  unfold codeArr at HSA
  refine sl_op HF rfl rfl (by decide) ?_; intro K hK; have e10 := HF.see 10 rfl; go_wp2_with fail; clear e10 HF; intro _ HF
  refine sl_move HF rfl rfl (.inl rfl) (by decide) rfl ?_; clear HF; intro _ HF
  refine sl_want HF rfl rfl rfl rfl (by decide) ?_; intro K hK; have e2 := HF.see 2 rfl; go_wp2_with fail; clear e2 HF; intro _ HF
  refine sl_want HF rfl rfl rfl rfl (by decide) ?_; intro K hK; have e13 := HF.see 13 rfl; go_wp2_with fail
  refine HSA.out.mono ?_
  rintro e w4 ⟨⟨ra, rfl, _⟩, hm4⟩
  have HM4 := Lib.hid (HM3.out.trans hm4)
  have H24 := Lib.hid (H23.out.keep hm4 id)
  clear hm4 HM3 H23 HSA a0 a1 a2 a3 a4 a5
  go_wp2_with fail; clear e13 HF; intro _ HF
  rcases ra with _ | _
  · skip
    refine sl_want HF rfl rfl rfl rfl (by decide) ?_; intro K hK; have e14 := HF.see 14 rfl; go_wp2_with fail; clear e14 HF; intro _ HF
    refine sl_op HF rfl rfl (by decide) ?_; intro K hK; have e12 := HF.see 12 rfl; have e15 := HF.see 15 rfl; go_wp2_with fail; clear e12 e15 HF; intro _ HF
    refine sl_move HF rfl rfl (.inl rfl) (by decide) rfl ?_; clear HF; intro _ HF
    refine sl_skip HF rfl rfl rfl rfl (by decide) ?_; clear HF; intro _ HF
    refine sl_skip HF rfl rfl rfl rfl (by decide) ?_; clear HF; intro _ HF
    refine sl_skip HF rfl rfl rfl rfl (by decide) ?_; clear HF; intro _ HF
    refine sl_op HF rfl rfl (by decide) ?_; intro K hK; have e17 := HF.see 17 rfl; have e20 := HF.see 20 rfl; go_wp2_with fail; clear e17 e20 HF; intro _ HF
    refine sl_move HF rfl rfl (.inl rfl) (by decide) rfl ?_; clear HF; intro _ HF
    refine sl_skip HF rfl rfl rfl rfl (by decide) ?_; clear HF; intro _ HF
    refine sl_skip HF rfl rfl rfl rfl (by decide) ?_; clear HF; intro _ HF
    refine sl_skip HF rfl rfl rfl rfl (by decide) ?_; clear HF; intro _ HF
    refine sl_op HF rfl rfl (by decide) ?_; intro K hK; have e22 := HF.see 22 rfl; have e25 := HF.see 25 rfl; go_wp2_with fail; clear e22 e25 HF; intro _ HF
    refine sl_nil (wp_cond_true (HF.at 26 rfl) (wp_seq (wp_region_lit ?_)))
    refine sl_op HF rfl rfl (by decide) ?_; intro K hK; go_wp2_with fail
    refine (awake15_any _).mono ?_
    rintro e w5 ⟨rfl, hm5⟩
    have HM5 := Lib.hid (HM4.out.trans hm5)
    clear hm5
    go_wp2_with fail; clear HF; intro _ HF
    refine sl_move HF rfl rfl (.inr rfl) (by decide) rfl ?_; clear HF; intro _ HF
    refine sl_nil (wp_ret ?_)
    dsimp only [Exit.then]
    exact sl_ret1 HF rfl rfl ⟨rfl, HM5.out⟩
  obtain ⟨a0, a1, a2, a3, a4, a5⟩ := code_boxed H24.out
  have HRI := Lib.hid (rCodeRight_any w4 (HA.out.keep HM4.out) HT.out)
  rw [Array.toArray_toList] at HRI
  unfold codeArr at HRI
  refine sl_want HF rfl rfl rfl rfl (by decide) ?_; intro K hK; have e14 := HF.see 14 rfl; go_wp2_with fail; clear e14 HF; intro _ HF
  refine sl_op HF rfl rfl (by decide) ?_; intro K hK; have e12 := HF.see 12 rfl; have e15 := HF.see 15 rfl; go_wp2_with fail; clear e12 e15 HF; intro _ HF
  refine sl_move HF rfl rfl (.inl rfl) (by decide) rfl ?_; clear HF; intro _ HF
  refine sl_want HF rfl rfl rfl rfl (by decide) ?_; intro K hK; have e2 := HF.see 2 rfl; go_wp2_with fail; clear e2 HF; intro _ HF
  refine sl_want HF rfl rfl rfl rfl (by decide) ?_; intro K hK; have e18 := HF.see 18 rfl; go_wp2_with fail
  refine HRI.out.mono ?_
  rintro e w5 ⟨rr, rfl, hrr, hm5⟩
  have HM5 := Lib.hid (HM4.out.trans hm5)
  have H25 := Lib.hid (H24.out.keep hm5 id)
  have HRR := Lib.hid hrr
  clear hm5 hrr HM4 H24 HRI a0 a1 a2 a3 a4 a5
  go_wp2_with fail; clear e18 HF; intro _ HF
  rcases rr with _ | _
  · skip
    refine sl_want HF rfl rfl rfl rfl (by decide) ?_; intro K hK; have e19 := HF.see 19 rfl; go_wp2_with fail; clear e19 HF; intro _ HF
    refine sl_op HF rfl rfl (by decide) ?_; intro K hK; have e17 := HF.see 17 rfl; have e20 := HF.see 20 rfl; go_wp2_with fail; clear e17 e20 HF; intro _ HF
    refine sl_move HF rfl rfl (.inl rfl) (by decide) rfl ?_; clear HF; intro _ HF
    refine sl_skip HF rfl rfl rfl rfl (by decide) ?_; clear HF; intro _ HF
    refine sl_skip HF rfl rfl rfl rfl (by decide) ?_; clear HF; intro _ HF
    refine sl_skip HF rfl rfl rfl rfl (by decide) ?_; clear HF; intro _ HF
    refine sl_op HF rfl rfl (by decide) ?_; intro K hK; have e22 := HF.see 22 rfl; have e25 := HF.see 25 rfl; go_wp2_with fail; clear e22 e25 HF; intro _ HF
    refine sl_nil (wp_cond_true (HF.at 26 rfl) (wp_seq (wp_region_lit ?_)))
    refine sl_op HF rfl rfl (by decide) ?_; intro K hK; go_wp2_with fail
    refine (awake15_any _).mono ?_
    rintro e w6 ⟨rfl, hm6⟩
    have HM6 := Lib.hid (HM5.out.trans hm6)
    clear hm6
    go_wp2_with fail; clear HF; intro _ HF
    refine sl_move HF rfl rfl (.inr rfl) (by decide) rfl ?_; clear HF; intro _ HF
    refine sl_nil (wp_ret ?_)
    dsimp only [Exit.then]
    exact sl_ret1 HF rfl rfl ⟨rfl, HM6.out⟩
  have HP := Lib.hid (HRR.out rfl)
  by_cases h100 : (100 : Int) < (nw : Int)
  · have hd : decide ((100 : Int) < (nw : Int)) = true := by simpa using h100
    refine sl_want HF rfl rfl rfl rfl (by decide) ?_; intro K hK; have e19 := HF.see 19 rfl; go_wp2_with fail; clear e19 HF; intro _ HF
    refine sl_op HF rfl rfl (by decide) ?_; intro K hK; have e17 := HF.see 17 rfl; have e20 := HF.see 20 rfl; go_wp2_with fail; clear e17 e20 HF; intro _ HF
    refine sl_move HF rfl rfl (.inl rfl) (by decide) rfl ?_; clear HF; intro _ HF
    refine sl_want HF rfl rfl rfl rfl (by decide) ?_; intro K hK; have e1 := HF.see 1 rfl; go_wp2_with fail; clear e1 HF; intro _ HF
    refine sl_want HF rfl rfl rfl rfl (by decide) ?_; intro K hK; have e23 := HF.see 23 rfl; go_wp2_with fail; clear e23 HF; intro _ HF
    refine sl_want HF rfl rfl rfl rfl (by decide) ?_; intro K hK; have e24 := HF.see 24 rfl; go_wp2_with fail; clear e24 HF; intro _ HF
    refine sl_op HF rfl rfl (by decide) ?_; intro K hK; have e22 := HF.see 22 rfl; have e25 := HF.see 25 rfl; go_wp2_with fail; clear e22 e25 HF; intro _ HF
    refine sl_nil (wp_cond_true (HF.at 26 rfl) (wp_seq (wp_region_lit ?_)))
    refine sl_op HF rfl rfl (by decide) ?_; intro K hK; go_wp2_with fail
    refine (awake15_any _).mono ?_
    rintro e w6 ⟨rfl, hm6⟩
    have HM6 := Lib.hid (HM5.out.trans hm6)
    clear hm6
    go_wp2_with fail; clear HF; intro _ HF
    refine sl_move HF rfl rfl (.inr rfl) (by decide) rfl ?_; clear HF; intro _ HF
    refine sl_nil (wp_ret ?_)
    dsimp only [Exit.then]
    exact sl_ret1 HF rfl rfl ⟨rfl, HM6.out⟩
  have hd : decide ((100 : Int) < (nw : Int)) = false := by simpa using h100
  have h100' : nw ≤ 100 := by omega
  refine sl_want HF rfl rfl rfl rfl (by decide) ?_; intro K hK; have e19 := HF.see 19 rfl; go_wp2_with fail; clear e19 HF; intro _ HF
  refine sl_op HF rfl rfl (by decide) ?_; intro K hK; have e17 := HF.see 17 rfl; have e20 := HF.see 20 rfl; go_wp2_with fail; clear e17 e20 HF; intro _ HF
  refine sl_move HF rfl rfl (.inl rfl) (by decide) rfl ?_; clear HF; intro _ HF
  refine sl_want HF rfl rfl rfl rfl (by decide) ?_; intro K hK; have e1 := HF.see 1 rfl; go_wp2_with fail; clear e1 HF; intro _ HF
  refine sl_want HF rfl rfl rfl rfl (by decide) ?_; intro K hK; have e23 := HF.see 23 rfl; go_wp2_with fail; clear e23 HF; intro _ HF
  refine sl_want HF rfl rfl rfl rfl (by decide) ?_; intro K hK; have e24 := HF.see 24 rfl; go_wp2_with fail; clear e24 HF; intro _ HF
  refine sl_op HF rfl rfl (by decide) ?_; intro K hK; have e22 := HF.see 22 rfl; have e25 := HF.see 25 rfl; go_wp2_with fail; clear e22 e25 HF; intro _ HF
  refine sl_nil (wp_cond_false (HF.at 26 rfl) (wp_skip (sl_then (wp_seq (wp_region_lit ?_)))))
  have HF2 := HF.keep [1, 2]
  simp only [pick, look] at HF2
  clear HF hd h100
  have HF := HF2
  clear HF2
  obtain ⟨a0, a1, a2, a3, a4, a5⟩ := code_boxed H25.out
  have HHG := Lib.hid (codeHeights_any w5 (HA.out.keep HM5.out) HP.out HT.out)
  rw [Array.toArray_toList] at HHG
  unfold codeArr at HHG
  refine sl_op HF rfl rfl (by decide) ?_; intro K hK; have e2 := HF.see 2 rfl; go_wp2_with fail; clear e2 HF; intro _ HF
  refine sl_op HF rfl rfl (by decide) ?_; intro K hK; have e28 := HF.see 28 rfl; go_wp2_with fail
  refine HHG.out.mono ?_
  rintro e w6 ⟨g5, o, rfl, hb5, hol, hfit, hm6⟩
  have HM6 := Lib.hid (HM5.out.trans hm6)
  have H26 := Lib.hid (H25.out.keep hm6 id)
  have HB5 := Lib.hid hb5
  have HFIT := Lib.hid hfit
  have HOL := Lib.hid hol
  clear hm6 hb5 hfit hol HM5 H25 HHG a0 a1 a2 a3 a4 a5
  go_wp2_with fail; clear e28 HF; intro _ HF
  refine sl_move HF rfl rfl (.inr rfl) (by decide) rfl ?_; clear HF; intro _ HF
  obtain ⟨n, hnn⟩ : ∃ n, c.ins.length = n := ⟨_, rfl⟩
  have HNN := Lib.hid hnn
  rw [hnn] at HF
  clear hnn
  refine sl_nil (wp_seq (wp_region_lit ?_))
  refine sl_const HF rfl rfl (.inr rfl) (by decide) ?_; clear HF; intro _ HF
  refine sl_const HF rfl rfl (.inr rfl) (by decide) ?_; clear HF; intro _ HF
  refine sl_nil (wp_seq (wp_seq (wp_region_lit ?_)))
  refine sl_const HF rfl rfl (.inr rfl) (by decide) ?_; clear HF; intro _ HF
  have HF2 := HF.keep [1, 2, 5, 6, 7, 8]
  simp only [pick, look] at HF2
  refine sl_nil (wp_block (wp_loop (CrI c g2 g5 n nw cw A w6) (fun ac _ => nw - (intOf (ac.eval (.tmp 8))).toNat) ⟨0, 0, 0, HF2, Nat.zero_le _, by decide, fun f hf => hf.zero, Mod.refl _ _⟩ ?_))
  clear HF HF2
  rintro ac2 w7 ⟨p, i, hh, HF, hin, h4, hall, hm7⟩
  have HMU := Lib.hid (show nw - (intOf ((ac2.tmps[8]?).getD undef)).toNat = nw - i by rw [HF.see 8 rfl]; simp [intOf])
  have HALL := Lib.hid hall
  have HM7 := Lib.hid hm7
  clear hall hm7
  by_cases hlt : i < nw
  · have hd : decide ((i : Int) < (nw : Int)) = true := by simp; omega
    refine wp_seq (wp_seq (wp_region_lit ?_))
    refine sl_move HF rfl rfl (.inl rfl) (by decide) rfl ?_; clear HF; intro _ HF
    refine sl_move HF rfl rfl (.inl rfl) (by decide) rfl ?_; clear HF; intro _ HF
    refine sl_op HF rfl rfl (by decide) ?_; intro K hK; have e31 := HF.see 31 rfl; go_wp2_with fail; clear e31 HF; intro _ HF
    refine sl_op HF rfl rfl (by decide) ?_; intro K hK; have e30 := HF.see 30 rfl; have e32 := HF.see 32 rfl; go_wp2_with fail; clear e30 e32 HF; intro _ HF
    refine sl_nil (wp_cond_true (HF.at 33 rfl) (wp_skip (sl_then (wp_seq (wp_block (wp_seq (wp_seq (wp_region_lit ?_))))))))
    have HM07 := Lib.hid (HM6.out.trans HM7.out)
    obtain ⟨b, hwb⟩ : ∃ b, ws[i]? = some b := ⟨_, List.getElem?_eq_getElem (by rw [HWN.out]; exact hlt)⟩
    obtain ⟨adW, hAW, _, _, hcW⟩ := (HR.out.keep0 HM07.out).at_ (k := i) (u := .bool b) (by rw [List.getElem?_map, hwb]; rfl)
    subst hAW
    have HCW := Lib.hid hcW
    have hs := HALL.out _ HFIT.out
    obtain ⟨hs1, hs2⟩ := seen_some.1 hs
    obtain ⟨x, hxi, hx1, hx2, hx3⟩ := HFIT.out.at_ p hh hs
    have hpn : p < n := by have := (List.getElem?_eq_some_iff.1 hxi).1; rw [HNN.out] at this; exact this
    have hci : w7.cell? ⟨g5, p, none⟩ = some (.int .i64 hh) := by
      rw [(HB5.out.keep HM7.out id).cell p, List.getElem?_toArray, List.getElem?_map, hs1]
      rfl
    have HX := Lib.hid (And.intro hxi (And.intro hx1 (And.intro hx2 hx3)))
    have hcx := HA.out.keep HM07.out
    obtain ⟨v', hv', hf'⟩ := hcx.view
    have hrow := hf' w7 (Mod.refl _ _)
    rw [Array.toArray_toList] at hv'
    have hA3 : v'.A3 = v.A3 ∧ v'.c3 = v.c3 := by
      unfold codeArr at hv'
      simp at hv'
      obtain ⟨_, ⟨h1, h2⟩, _⟩ := hv'
      exact ⟨h1.symm, h2.symm⟩
    obtain ⟨ad, had, hadl, b0, b1, b2⟩ := eqIns_at hrow.r3 hxi
    have hn3 := hrow.n3
    have hm3 := hrow.m3
    rw [hA3.1] at had
    rw [hA3.2, HNN.out] at hn3
    rw [hA3.2] at hm3
    have hfitx := ins_fit (HP.out.pre.may x (List.mem_of_getElem? hxi))
    have HFX := Lib.hid hfitx
    obtain ⟨a0, a1, a2, a3, a4, a5⟩ := code_boxed (H26.out.keep HM7.out id)
    rw [HNN.out, had] at a3
    have q0 : decide ((p : Int) < 0) = false := by simp
    have q1 : decide ((n : Int) ≤ (p : Int)) = false := by simp; omega
    have q1' : decide (n ≤ p) = false := by simp; omega
    have q2 : (hh != hh) = false := by simp
    clear hwb hcW hs hs1 hxi hx1 hx2 hx3 hcx hv' hf' hrow hA3 had hfitx hd a0 a1 a2 a4 a5
    refine sl_move HF rfl rfl (.inl rfl) (by decide) rfl ?_; clear HF; intro _ HF
    refine sl_op HF rfl rfl (by decide) ?_; intro K hK; have e36 := HF.see 36 rfl; go_wp2_with fail; clear e36 HF; intro _ HF
    refine sl_move HF rfl rfl (.inl rfl) (by decide) rfl ?_; clear HF; intro _ HF
    refine sl_want HF rfl rfl rfl rfl (by decide) ?_; intro K hK; have e6 := HF.see 6 rfl; go_wp2_with fail; clear e6 HF; intro _ HF
    refine sl_want HF rfl rfl rfl rfl (by decide) ?_; intro K hK; have e2 := HF.see 2 rfl; go_wp2_with fail; clear e2 HF; intro _ HF
    refine sl_want HF rfl rfl rfl rfl (by decide) ?_; intro K hK; have e40 := HF.see 40 rfl; go_wp2_with fail; clear e40 HF; intro _ HF
    refine sl_want HF rfl rfl rfl rfl (by decide) ?_; intro K hK; have e41 := HF.see 41 rfl; go_wp2_with fail; clear e41 HF; intro _ HF
    refine sl_want HF rfl rfl rfl rfl (by decide) ?_; intro K hK; have e39 := HF.see 39 rfl; have e42 := HF.see 42 rfl; go_wp2_with fail; clear e39 e42 HF; intro _ HF
    refine sl_op HF rfl rfl (by decide) ?_; intro K hK; have e38 := HF.see 38 rfl; have e43 := HF.see 43 rfl; go_wp2_with fail; clear e38 e43 HF; intro _ HF
    refine sl_move HF rfl rfl (.inl rfl) (by decide) rfl ?_; clear HF; intro _ HF
    refine sl_want HF rfl rfl rfl rfl (by decide) ?_; intro K hK; have e6 := HF.see 6 rfl; go_wp2_with fail; clear e6 HF; intro _ HF
    refine sl_want HF rfl rfl rfl rfl (by decide) ?_; intro K hK; have e5 := HF.see 5 rfl; go_wp2_with fail; clear e5 HF; intro _ HF
    refine sl_want HF rfl rfl rfl rfl (by decide) ?_; intro K hK; have e47 := HF.see 47 rfl; go_wp2_with fail; clear e47 HF; intro _ HF
    refine sl_want HF rfl rfl rfl rfl (by decide) ?_; intro K hK; have e46 := HF.see 46 rfl; have e48 := HF.see 48 rfl; go_wp2_with fail; clear e46 e48 HF; intro _ HF
    refine sl_op HF rfl rfl (by decide) ?_; intro K hK; have e45 := HF.see 45 rfl; have e49 := HF.see 49 rfl; go_wp2_with fail; clear e45 e49 HF; intro _ HF
    refine sl_move HF rfl rfl (.inl rfl) (by decide) rfl ?_; clear HF; intro _ HF
    refine sl_want HF rfl rfl rfl rfl (by decide) ?_; intro K hK; have e5 := HF.see 5 rfl; go_wp2_with fail; clear e5 HF; intro _ HF
    refine sl_want HF rfl rfl rfl rfl (by decide) ?_; intro K hK; have e6 := HF.see 6 rfl; go_wp2_with fail; clear e6 HF; intro _ HF
    refine sl_want HF rfl rfl rfl rfl (by decide) ?_; intro K hK; have e52 := HF.see 52 rfl; have e53 := HF.see 53 rfl; go_wp2_with fail; clear e52 e53 HF; intro _ HF
    refine sl_want HF rfl rfl rfl rfl (by decide) ?_; intro K hK; have e54 := HF.see 54 rfl; go_wp2_with fail; clear e54 HF; intro _ HF
    refine sl_want HF rfl rfl rfl rfl (by decide) ?_; intro K hK; have e7 := HF.see 7 rfl; go_wp2_with fail; clear e7 HF; intro _ HF
    refine sl_want HF rfl rfl rfl rfl (by decide) ?_; intro K hK; have e55 := HF.see 55 rfl; have e56 := HF.see 56 rfl; go_wp2_with fail; clear e55 e56 HF; intro _ HF
    refine sl_op HF rfl rfl (by decide) ?_; intro K hK; have e51 := HF.see 51 rfl; have e57 := HF.see 57 rfl; go_wp2_with fail; clear e51 e57 HF; intro _ HF
    refine sl_nil (wp_cond_false (HF.at 58 rfl) (wp_skip (sl_then (wp_seq (wp_region_lit ?_)))))
    have HF2 := HF.keep [1, 2, 5, 6, 7, 8]
    simp only [pick, look] at HF2
    clear HF q0 q1 q1' q2 hci
    have HF := HF2
    clear HF2
    obtain ⟨xo, xa, xb⟩ := x
    simp only at b0 b1 b2
    refine sl_op HF rfl rfl (by decide) ?_; intro K hK; have e2 := HF.see 2 rfl; go_wp2_with fail; clear e2 HF; intro _ HF
    refine sl_op HF rfl rfl (by decide) ?_; intro K hK; have e59 := HF.see 59 rfl; go_wp2_with fail; clear e59 HF; intro _ HF
    refine sl_move HF rfl rfl (.inl rfl) (by decide) rfl ?_; clear HF; intro _ HF
    refine sl_op HF rfl rfl (by decide) ?_; intro K hK; have e60 := HF.see 60 rfl; have e61 := HF.see 61 rfl; go_wp2_with fail; clear e60 e61 HF; intro _ HF
    refine sl_op HF rfl rfl (by decide) ?_; intro K hK; have e62 := HF.see 62 rfl; go_wp2_with fail; clear e62 HF; intro _ HF
    refine sl_op HF rfl rfl (by decide) ?_; intro K hK; go_wp2_with fail; clear HF; intro _ HF
    refine sl_op0 HF rfl rfl ?_; intro K hK; have e9 := HF.see 9 rfl; have e63 := HF.see 63 rfl; go_wp2_with fail; clear e9 e63 HF; intro _ HF
    have hbx := Blk.new w7 33 #[.int .i64 xo, .int .i64 xa, .int .i64 xb]
    have hm8 := (Mod.refl Nil w7).alloc (.cells #[.int .i64 xo, .int .i64 xa, .int .i64 xb] 33)
    have hcw8 := HCW.out
    have HCW8 := Lib.hid (show (w7.alloc (.cells #[.int .i64 xo, .int .i64 xa, .int .i64 xb] 33)).cell? (adW.add i) = some (.bool b) from by
      obtain ⟨ad2, e1, _, e2, e3⟩ := ((HR.out.keep0 HM07.out).keep0 hm8).at_ (k := i) (u := .bool b) (by
        obtain ⟨ad3, e3, _, e5, e4⟩ := (HR.out.keep0 HM07.out) (by rw [List.length_map, HWN.out]; omega)
        cases e3
        have h5 : (ws.map Value.bool)[i]? = some ((ws.map Value.bool)[i]'(by rw [List.length_map, HWN.out]; exact hlt)) := List.getElem?_eq_getElem _
        rw [h5]
        have := e4 i _ h5
        rw [hcw8] at this
        exact this.symm)
      cases e1
      exact e3)
    have HM8 := Lib.hid (HM7.out.trans hm8)
    refine sl_nil (wp_seq (wp_region_lit ?_))
    change wpList _ _ _ _ _ (w7.alloc (.cells #[.int .i64 xo, .int .i64 xa, .int .i64 xb] 33))
    generalize w7.alloc (.cells #[.int .i64 xo, .int .i64 xa, .int .i64 xb] 33) = w8 at hbx HM8 HCW8 ⊢
    generalize w7.heap.size = gx at hbx HF
    have HBX := Lib.hid hbx
    clear hbx hm8 a3 b0 b1 b2 hcw8 hadl
    refine sl_move HF rfl rfl (.inl rfl) (by decide) rfl ?_; clear HF; intro _ HF
    refine sl_op HF rfl rfl (by decide) ?_; intro K hK; have e64 := HF.see 64 rfl; go_wp2_with fail; clear e64 HF; intro _ HF
    refine sl_move HF rfl rfl (.inr rfl) (by decide) rfl ?_; clear HF; intro _ HF
    refine sl_nil (wp_seq (wp_seq (wp_region_lit ?_)))
    have i0 := HBX.out.cell 0
    simp only [List.getElem?_toArray, List.getElem?_cons_zero] at i0
    refine sl_op HF rfl rfl (by decide) ?_; intro K hK; have e9 := HF.see 9 rfl; go_wp2_with fail; clear e9 HF; intro _ HF
    refine sl_op HF rfl rfl (by decide) ?_; intro K hK; have e66 := HF.see 66 rfl; go_wp2_with fail; clear e66 HF; intro _ HF
    have HF2 := HF.keep [1, 2, 5, 6, 7, 8, 9, 67]
    simp only [pick, look] at HF2
    refine sl_nil (cr_step (x := ⟨xo, xa, xb⟩) HF2 HBX.out HFX.out HX.out.2.1 hs2 h4 hlt h100' hcw hcw2 HCW8.out ?_ ?_)
    · intro a' HF
      dsimp only [Exit.then, Exit.inBlock]
      exact sl_ret1 HF rfl rfl ⟨rfl, HM6.out.trans HM8.out⟩
    intro a' t HF htg
    have HTG := Lib.hid htg
    clear htg HF2
    have HM08 := Lib.hid (HM6.out.trans HM8.out)
    obtain ⟨nx, hnx⟩ : ∃ nx, insNext ⟨xo, xa, xb⟩ hh = nx := ⟨_, rfl⟩
    have HNX := Lib.hid hnx
    rw [hnx] at HF
    obtain ⟨a0, a1, a2, a3, a4, a5⟩ := code_boxed (H26.out.keep HM8.out id)
    have HMO := Lib.hid (codeMost_any w8 (HA.out.keep HM08.out) HP.out HT.out)
    rw [Array.toArray_toList] at HMO
    unfold codeArr at HMO
    clear hnx
    refine sl_then (wp_seq (wp_region_lit ?_))
    refine sl_move HF rfl rfl (.inl rfl) (by decide) rfl ?_; clear HF; intro _ HF
    refine sl_op HF rfl rfl (by decide) ?_; intro K hK; have e2 := HF.see 2 rfl; go_wp2_with fail; clear e2 HF; intro _ HF
    refine sl_op HF rfl rfl (by decide) ?_; intro K hK; have e128 := HF.see 128 rfl; go_wp2_with fail
    refine HMO.out.mono ?_
    rintro e w9 ⟨o2, mo, rfl, hfit2, hmo, hm9⟩
    have HM9 := Lib.hid (HM8.out.trans hm9)
    have hle : nx ≤ mo := by
      have h1 := HALL.out _ hfit2
      have := (hmo.ge p hh _ h1 HX.out.1).2
      rw [HNX.out] at this
      exact this
    have hd2 : decide (mo < nx) = false := by simp; omega
    clear hm9 HMO a0 a1 a2 a3 a4 a5 hfit2 hmo
    go_wp2_with fail; clear e128 HF; intro _ HF
    refine sl_op HF rfl rfl (by decide) ?_; intro K hK; have e127 := HF.see 127 rfl; have e129 := HF.see 129 rfl; go_wp2_with fail; clear e127 e129 HF; intro _ HF
    refine sl_nil (wp_cond_false (HF.at 130 rfl) (wp_skip ?_))
    dsimp only [Exit.then, Exit.inBlock]
    refine wp_region_lit ?_
    refine sl_move HF rfl rfl (.inl rfl) (by decide) rfl ?_; clear HF; intro _ HF
    refine sl_op HF rfl rfl (by decide) ?_; intro K hK; have e34 := HF.see 34 rfl; go_wp2_with fail; clear e34 HF; intro _ HF
    refine sl_move HF rfl rfl (.inr rfl) (by decide) rfl ?_; clear HF; intro _ HF
    have ht0 := (HX.out.2.2.2 t HTG.out).1
    obtain ⟨tn, rfl⟩ : ∃ tn : Nat, t = tn := ⟨t.toNat, by omega⟩
    have HF2 := HF.keep [1, 2, 5, 6, 7, 8]
    simp only [pick, look] at HF2
    refine wpList_nil ?_
    show _ ∧ _
    refine ⟨⟨tn, i + 1, nx, by exact_mod_cast HF2, by omega, ?_, fun f hf => ?_, HM9.out⟩, ?_⟩
    · have := HX.out.2.2.1
      rw [HNX.out] at this
      exact this
    · obtain ⟨y, h1, _, _, h2⟩ := hf.at_ p hh (HALL.out f hf)
      rw [HX.out.1] at h1
      cases h1
      have := (h2 _ HTG.out).2
      rw [Int.toNat_natCast, HNX.out] at this
      exact this
    · have e6 := HF2.see 8 rfl
      try simp only [Act.eval_tmp]
      rw [e6, HMU.out]
      simp only [intOf]
      omega
  · have hd : decide ((i : Int) < (nw : Int)) = false := by simp; omega
    refine wp_seq (wp_seq (wp_region_lit ?_))
    refine sl_move HF rfl rfl (.inl rfl) (by decide) rfl ?_; clear HF; intro _ HF
    refine sl_move HF rfl rfl (.inl rfl) (by decide) rfl ?_; clear HF; intro _ HF
    refine sl_op HF rfl rfl (by decide) ?_; intro K hK; have e31 := HF.see 31 rfl; go_wp2_with fail; clear e31 HF; intro _ HF
    refine sl_op HF rfl rfl (by decide) ?_; intro K hK; have e30 := HF.see 30 rfl; have e32 := HF.see 32 rfl; go_wp2_with fail; clear e30 e32 HF; intro _ HF
    refine sl_nil (wp_cond_false (HF.at 33 rfl) (wp_exit ?_))
    dsimp only [Exit.then]
    refine sl_exit (sl_then (wp_seq (wp_region_lit ?_)))
    refine sl_const HF rfl rfl (.inr rfl) (by decide) ?_; clear HF; intro _ HF
    exact sl_nil (wp_ret (sl_ret1 HF rfl rfl ⟨rfl, HM6.out.trans HM7.out⟩))
end Go.Proofs.YtefloadjolpgbaaDoor
