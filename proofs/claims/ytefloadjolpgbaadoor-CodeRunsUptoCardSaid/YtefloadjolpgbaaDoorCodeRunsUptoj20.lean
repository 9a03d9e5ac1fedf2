/- Parts of the proof of CodeRunsUpto, joined: Rrt. -/
import Derived.Test.YtefloadjolpgbaaDoorCodeRunsUptoj19
namespace Go.Proofs.YtefloadjolpgbaaDoor
open Go.RowKit

set_option maxHeartbeats 3200000 in
set_option maxRecDepth 100000 in
theorem rRight_any : ∀ (m : Nat) (c : CodeT), SizeOf.sizeOf c ≤ m → ∀ (v : CodeV) (ar : List CodeT) (rows : List (List Value)) (A5 : Option Addr) (n5 c5 : Nat) (w : World), (∀ w', Mod Nil w w' → CodeF w' c v) → CodeC w c (codeArr c v).toList → AroF w ar rows A5 n5 c5 → n5 ≤ 21 → TxtP c →
    Calls Tryd.prog 15 #[.agg (codeArr c v), .slice A5 n5 c5] w fun e w' => RRt c ar w e w' := by
  intro m
  induction m with
  | zero => intro c hc; obtain ⟨a, v, l, is, bs, cl⟩ := c; simp at hc
  | succ m ih =>
  intro c hsz v ar rows A5 n5 c5 w hf hc hA hn ht
  have hbk : Blk (w.alloc (.cells (codeArr c v) 26)) w.heap.size 26 (codeArr c v) := Blk.new _ _ _
  have hm1 := (Mod.refl Nil w).alloc (.cells (codeArr c v) 26)
  have HFC := Lib.hid (show ∀ w', Mod Nil (w.alloc (.cells (codeArr c v) 26)) w' → CodeF w' c v from fun w' h => hf w' (hm1.trans h))
  have HCC := Lib.hid (hc.keep hm1)
  have HA := Lib.hid (hA.keep hm1)
  have HT := Lib.hid ht
  have HSZ := Lib.hid hsz
  have IH := Lib.hid ih
  have hcls : c.cls.length ≤ 2000000 := ht.cls
  clear hf hc hA ht hsz ih
  refine sl_enter (n := 153) (fn := Tryd.f15) (c := rtBody) Tryd.func15 rfl rfl (by simp) fun ac HF => ?_
  conv => arg 2; whnf
  refine wp_seq (wp_region_lit ?_)
  refine sl_op HF rfl rfl (by decide) ?_; intro K hK; have e0 := HF.see 0 rfl; go_wp2_with fail; clear e0 HF; intro _ HF
  refine sl_const HF rfl rfl (.inr rfl) (by decide) ?_; clear HF; intro _ HF
  generalize w.alloc (.cells (codeArr c v) 26) = w1 at hbk hm1 HFC HCC HA ⊢
  generalize w.heap.size = g2 at hbk HF
  have HB1 := Lib.hid hbk
  have HM1 := Lib.hid hm1
  obtain ⟨k0, k1, k2, k3, k4, k5⟩ := code_boxed hbk
  have hcf := HFC.out w1 (Mod.refl _ _)
  have hl2 := Nat.le_trans hcf.n2 hcf.m2
  have hl3 := Nat.le_trans hcf.n3 hcf.m3
  have hl4 := Nat.le_trans hcf.n4 hcf.m4
  clear hbk hm1 hcf
  have hbad : ∀ a' w', Sl 153 [(4, .bool false)] a' → Mod Nil w1 w' → bodyPost Tryd.prog Tryd.f15 (fun e w' => RRt c ar w e w') .ret a' w' := fun a' w' h hm => sl_ret1 h rfl rfl ⟨false, rfl, (fun h => by cases h), HM1.out.trans hm⟩
  have HBAD := Lib.hid hbad
  clear hbad
  refine sl_nil (wp_seq (wp_seq (wp_region_lit ?_)))
  by_cases h0 : c.args < 0
  · have q0 : decide (c.args < 0) = true := by simpa using h0
    refine sl_op HF rfl rfl (by decide) ?_; intro K hK; have e2 := HF.see 2 rfl; go_wp2_with fail; clear e2 HF; intro _ HF
    refine sl_op HF rfl rfl (by decide) ?_; intro K hK; have e12 := HF.see 12 rfl; go_wp2_with fail; clear e12 HF; intro _ HF
    refine sl_op HF rfl rfl (by decide) ?_; intro K hK; have e13 := HF.see 13 rfl; go_wp2_with fail; clear e13 HF; intro _ HF
    refine sl_move HF rfl rfl (.inl rfl) (by decide) rfl ?_; clear HF; intro _ HF
    refine sl_skip HF rfl rfl rfl rfl (by decide) ?_; clear HF; intro _ HF
    refine sl_skip HF rfl rfl rfl rfl (by decide) ?_; clear HF; intro _ HF
    refine sl_skip HF rfl rfl rfl rfl (by decide) ?_; clear HF; intro _ HF
    refine sl_skip HF rfl rfl rfl rfl (by decide) ?_; clear HF; intro _ HF
    refine sl_skip HF rfl rfl rfl rfl (by decide) ?_; clear HF; intro _ HF
    refine sl_op HF rfl rfl (by decide) ?_; intro K hK; have e15 := HF.see 15 rfl; have e20 := HF.see 20 rfl; go_wp2_with fail; clear e15 e20 HF; intro _ HF
    refine sl_move HF rfl rfl (.inl rfl) (by decide) rfl ?_; clear HF; intro _ HF
    refine sl_skip HF rfl rfl rfl rfl (by decide) ?_; clear HF; intro _ HF
    refine sl_skip HF rfl rfl rfl rfl (by decide) ?_; clear HF; intro _ HF
    refine sl_skip HF rfl rfl rfl rfl (by decide) ?_; clear HF; intro _ HF
    refine sl_op HF rfl rfl (by decide) ?_; intro K hK; have e22 := HF.see 22 rfl; have e25 := HF.see 25 rfl; go_wp2_with fail; clear e22 e25 HF; intro _ HF
    refine sl_move HF rfl rfl (.inl rfl) (by decide) rfl ?_; clear HF; intro _ HF
    refine sl_skip HF rfl rfl rfl rfl (by decide) ?_; clear HF; intro _ HF
    refine sl_skip HF rfl rfl rfl rfl (by decide) ?_; clear HF; intro _ HF
    refine sl_skip HF rfl rfl rfl rfl (by decide) ?_; clear HF; intro _ HF
    refine sl_skip HF rfl rfl rfl rfl (by decide) ?_; clear HF; intro _ HF
    refine sl_op HF rfl rfl (by decide) ?_; intro K hK; have e27 := HF.see 27 rfl; have e31 := HF.see 31 rfl; go_wp2_with fail; clear e27 e31 HF; intro _ HF
    refine sl_move HF rfl rfl (.inl rfl) (by decide) rfl ?_; clear HF; intro _ HF
    refine sl_skip HF rfl rfl rfl rfl (by decide) ?_; clear HF; intro _ HF
    refine sl_skip HF rfl rfl rfl rfl (by decide) ?_; clear HF; intro _ HF
    refine sl_skip HF rfl rfl rfl rfl (by decide) ?_; clear HF; intro _ HF
    refine sl_skip HF rfl rfl rfl rfl (by decide) ?_; clear HF; intro _ HF
    refine sl_op HF rfl rfl (by decide) ?_; intro K hK; have e33 := HF.see 33 rfl; have e37 := HF.see 37 rfl; go_wp2_with fail; clear e33 e37 HF; intro _ HF
    refine sl_move HF rfl rfl (.inl rfl) (by decide) rfl ?_; clear HF; intro _ HF
    refine sl_skip HF rfl rfl rfl rfl (by decide) ?_; clear HF; intro _ HF
    refine sl_skip HF rfl rfl rfl rfl (by decide) ?_; clear HF; intro _ HF
    refine sl_skip HF rfl rfl rfl rfl (by decide) ?_; clear HF; intro _ HF
    refine sl_skip HF rfl rfl rfl rfl (by decide) ?_; clear HF; intro _ HF
    refine sl_op HF rfl rfl (by decide) ?_; intro K hK; have e39 := HF.see 39 rfl; have e43 := HF.see 43 rfl; go_wp2_with fail; clear e39 e43 HF; intro _ HF
    refine sl_move HF rfl rfl (.inl rfl) (by decide) rfl ?_; clear HF; intro _ HF
    refine sl_skip HF rfl rfl rfl rfl (by decide) ?_; clear HF; intro _ HF
    refine sl_skip HF rfl rfl rfl rfl (by decide) ?_; clear HF; intro _ HF
    refine sl_skip HF rfl rfl rfl rfl (by decide) ?_; clear HF; intro _ HF
    refine sl_op HF rfl rfl (by decide) ?_; intro K hK; have e45 := HF.see 45 rfl; have e48 := HF.see 48 rfl; go_wp2_with fail; clear e45 e48 HF; intro _ HF
    refine sl_nil (wp_cond_true (HF.at 49 rfl) (wp_seq (wp_region_lit ?_)))
    refine sl_const HF rfl rfl (.inr rfl) (by decide) ?_; clear HF; intro _ HF
    have HF2 := HF.keep [4]
    simp only [pick, look] at HF2
    exact sl_nil (wp_ret (HBAD.out _ _ HF2 (Mod.refl _ _)))
  have q0 : decide (c.args < 0) = false := by simpa using h0
  by_cases h1 : c.vars < c.args
  · have q1 : decide (c.vars < c.args) = true := by simpa using h1
    refine sl_op HF rfl rfl (by decide) ?_; intro K hK; have e2 := HF.see 2 rfl; go_wp2_with fail; clear e2 HF; intro _ HF
    refine sl_op HF rfl rfl (by decide) ?_; intro K hK; have e12 := HF.see 12 rfl; go_wp2_with fail; clear e12 HF; intro _ HF
    refine sl_op HF rfl rfl (by decide) ?_; intro K hK; have e13 := HF.see 13 rfl; go_wp2_with fail; clear e13 HF; intro _ HF
    refine sl_move HF rfl rfl (.inl rfl) (by decide) rfl ?_; clear HF; intro _ HF
    refine sl_want HF rfl rfl rfl rfl (by decide) ?_; intro K hK; have e2 := HF.see 2 rfl; go_wp2_with fail; clear e2 HF; intro _ HF
    refine sl_want HF rfl rfl rfl rfl (by decide) ?_; intro K hK; have e16 := HF.see 16 rfl; go_wp2_with fail; clear e16 HF; intro _ HF
    refine sl_want HF rfl rfl rfl rfl (by decide) ?_; intro K hK; have e2 := HF.see 2 rfl; go_wp2_with fail; clear e2 HF; intro _ HF
    refine sl_want HF rfl rfl rfl rfl (by decide) ?_; intro K hK; have e18 := HF.see 18 rfl; go_wp2_with fail; clear e18 HF; intro _ HF
    refine sl_want HF rfl rfl rfl rfl (by decide) ?_; intro K hK; have e17 := HF.see 17 rfl; have e19 := HF.see 19 rfl; go_wp2_with fail; clear e17 e19 HF; intro _ HF
    refine sl_op HF rfl rfl (by decide) ?_; intro K hK; have e15 := HF.see 15 rfl; have e20 := HF.see 20 rfl; go_wp2_with fail; clear e15 e20 HF; intro _ HF
    refine sl_move HF rfl rfl (.inl rfl) (by decide) rfl ?_; clear HF; intro _ HF
    refine sl_skip HF rfl rfl rfl rfl (by decide) ?_; clear HF; intro _ HF
    refine sl_skip HF rfl rfl rfl rfl (by decide) ?_; clear HF; intro _ HF
    refine sl_skip HF rfl rfl rfl rfl (by decide) ?_; clear HF; intro _ HF
    refine sl_op HF rfl rfl (by decide) ?_; intro K hK; have e22 := HF.see 22 rfl; have e25 := HF.see 25 rfl; go_wp2_with fail; clear e22 e25 HF; intro _ HF
    refine sl_move HF rfl rfl (.inl rfl) (by decide) rfl ?_; clear HF; intro _ HF
    refine sl_skip HF rfl rfl rfl rfl (by decide) ?_; clear HF; intro _ HF
    refine sl_skip HF rfl rfl rfl rfl (by decide) ?_; clear HF; intro _ HF
    refine sl_skip HF rfl rfl rfl rfl (by decide) ?_; clear HF; intro _ HF
    refine sl_skip HF rfl rfl rfl rfl (by decide) ?_; clear HF; intro _ HF
    refine sl_op HF rfl rfl (by decide) ?_; intro K hK; have e27 := HF.see 27 rfl; have e31 := HF.see 31 rfl; go_wp2_with fail; clear e27 e31 HF; intro _ HF
    refine sl_move HF rfl rfl (.inl rfl) (by decide) rfl ?_; clear HF; intro _ HF
    refine sl_skip HF rfl rfl rfl rfl (by decide) ?_; clear HF; intro _ HF
    refine sl_skip HF rfl rfl rfl rfl (by decide) ?_; clear HF; intro _ HF
    refine sl_skip HF rfl rfl rfl rfl (by decide) ?_; clear HF; intro _ HF
    refine sl_skip HF rfl rfl rfl rfl (by decide) ?_; clear HF; intro _ HF
    refine sl_op HF rfl rfl (by decide) ?_; intro K hK; have e33 := HF.see 33 rfl; have e37 := HF.see 37 rfl; go_wp2_with fail; clear e33 e37 HF; intro _ HF
    refine sl_move HF rfl rfl (.inl rfl) (by decide) rfl ?_; clear HF; intro _ HF
    refine sl_skip HF rfl rfl rfl rfl (by decide) ?_; clear HF; intro _ HF
    refine sl_skip HF rfl rfl rfl rfl (by decide) ?_; clear HF; intro _ HF
    refine sl_skip HF rfl rfl rfl rfl (by decide) ?_; clear HF; intro _ HF
    refine sl_skip HF rfl rfl rfl rfl (by decide) ?_; clear HF; intro _ HF
    refine sl_op HF rfl rfl (by decide) ?_; intro K hK; have e39 := HF.see 39 rfl; have e43 := HF.see 43 rfl; go_wp2_with fail; clear e39 e43 HF; intro _ HF
    refine sl_move HF rfl rfl (.inl rfl) (by decide) rfl ?_; clear HF; intro _ HF
    refine sl_skip HF rfl rfl rfl rfl (by decide) ?_; clear HF; intro _ HF
    refine sl_skip HF rfl rfl rfl rfl (by decide) ?_; clear HF; intro _ HF
    refine sl_skip HF rfl rfl rfl rfl (by decide) ?_; clear HF; intro _ HF
    refine sl_op HF rfl rfl (by decide) ?_; intro K hK; have e45 := HF.see 45 rfl; have e48 := HF.see 48 rfl; go_wp2_with fail; clear e45 e48 HF; intro _ HF
    refine sl_nil (wp_cond_true (HF.at 49 rfl) (wp_seq (wp_region_lit ?_)))
    refine sl_const HF rfl rfl (.inr rfl) (by decide) ?_; clear HF; intro _ HF
    have HF2 := HF.keep [4]
    simp only [pick, look] at HF2
    exact sl_nil (wp_ret (HBAD.out _ _ HF2 (Mod.refl _ _)))
  have q1 : decide (c.vars < c.args) = false := by simpa using h1
  by_cases h2 : 60 < c.vars
  · have q2 : decide (60 < c.vars) = true := by simpa using h2
    refine sl_op HF rfl rfl (by decide) ?_; intro K hK; have e2 := HF.see 2 rfl; go_wp2_with fail; clear e2 HF; intro _ HF
    refine sl_op HF rfl rfl (by decide) ?_; intro K hK; have e12 := HF.see 12 rfl; go_wp2_with fail; clear e12 HF; intro _ HF
    refine sl_op HF rfl rfl (by decide) ?_; intro K hK; have e13 := HF.see 13 rfl; go_wp2_with fail; clear e13 HF; intro _ HF
    refine sl_move HF rfl rfl (.inl rfl) (by decide) rfl ?_; clear HF; intro _ HF
    refine sl_want HF rfl rfl rfl rfl (by decide) ?_; intro K hK; have e2 := HF.see 2 rfl; go_wp2_with fail; clear e2 HF; intro _ HF
    refine sl_want HF rfl rfl rfl rfl (by decide) ?_; intro K hK; have e16 := HF.see 16 rfl; go_wp2_with fail; clear e16 HF; intro _ HF
    refine sl_want HF rfl rfl rfl rfl (by decide) ?_; intro K hK; have e2 := HF.see 2 rfl; go_wp2_with fail; clear e2 HF; intro _ HF
    refine sl_want HF rfl rfl rfl rfl (by decide) ?_; intro K hK; have e18 := HF.see 18 rfl; go_wp2_with fail; clear e18 HF; intro _ HF
    refine sl_want HF rfl rfl rfl rfl (by decide) ?_; intro K hK; have e17 := HF.see 17 rfl; have e19 := HF.see 19 rfl; go_wp2_with fail; clear e17 e19 HF; intro _ HF
    refine sl_op HF rfl rfl (by decide) ?_; intro K hK; have e15 := HF.see 15 rfl; have e20 := HF.see 20 rfl; go_wp2_with fail; clear e15 e20 HF; intro _ HF
    refine sl_move HF rfl rfl (.inl rfl) (by decide) rfl ?_; clear HF; intro _ HF
    refine sl_want HF rfl rfl rfl rfl (by decide) ?_; intro K hK; have e2 := HF.see 2 rfl; go_wp2_with fail; clear e2 HF; intro _ HF
    refine sl_want HF rfl rfl rfl rfl (by decide) ?_; intro K hK; have e23 := HF.see 23 rfl; go_wp2_with fail; clear e23 HF; intro _ HF
    refine sl_want HF rfl rfl rfl rfl (by decide) ?_; intro K hK; have e24 := HF.see 24 rfl; go_wp2_with fail; clear e24 HF; intro _ HF
    refine sl_op HF rfl rfl (by decide) ?_; intro K hK; have e22 := HF.see 22 rfl; have e25 := HF.see 25 rfl; go_wp2_with fail; clear e22 e25 HF; intro _ HF
    refine sl_move HF rfl rfl (.inl rfl) (by decide) rfl ?_; clear HF; intro _ HF
    refine sl_skip HF rfl rfl rfl rfl (by decide) ?_; clear HF; intro _ HF
    refine sl_skip HF rfl rfl rfl rfl (by decide) ?_; clear HF; intro _ HF
    refine sl_skip HF rfl rfl rfl rfl (by decide) ?_; clear HF; intro _ HF
    refine sl_skip HF rfl rfl rfl rfl (by decide) ?_; clear HF; intro _ HF
    refine sl_op HF rfl rfl (by decide) ?_; intro K hK; have e27 := HF.see 27 rfl; have e31 := HF.see 31 rfl; go_wp2_with fail; clear e27 e31 HF; intro _ HF
    refine sl_move HF rfl rfl (.inl rfl) (by decide) rfl ?_; clear HF; intro _ HF
    refine sl_skip HF rfl rfl rfl rfl (by decide) ?_; clear HF; intro _ HF
    refine sl_skip HF rfl rfl rfl rfl (by decide) ?_; clear HF; intro _ HF
    refine sl_skip HF rfl rfl rfl rfl (by decide) ?_; clear HF; intro _ HF
    refine sl_skip HF rfl rfl rfl rfl (by decide) ?_; clear HF; intro _ HF
    refine sl_op HF rfl rfl (by decide) ?_; intro K hK; have e33 := HF.see 33 rfl; have e37 := HF.see 37 rfl; go_wp2_with fail; clear e33 e37 HF; intro _ HF
    refine sl_move HF rfl rfl (.inl rfl) (by decide) rfl ?_; clear HF; intro _ HF
    refine sl_skip HF rfl rfl rfl rfl (by decide) ?_; clear HF; intro _ HF
    refine sl_skip HF rfl rfl rfl rfl (by decide) ?_; clear HF; intro _ HF
    refine sl_skip HF rfl rfl rfl rfl (by decide) ?_; clear HF; intro _ HF
    refine sl_skip HF rfl rfl rfl rfl (by decide) ?_; clear HF; intro _ HF
    refine sl_op HF rfl rfl (by decide) ?_; intro K hK; have e39 := HF.see 39 rfl; have e43 := HF.see 43 rfl; go_wp2_with fail; clear e39 e43 HF; intro _ HF
    refine sl_move HF rfl rfl (.inl rfl) (by decide) rfl ?_; clear HF; intro _ HF
    refine sl_skip HF rfl rfl rfl rfl (by decide) ?_; clear HF; intro _ HF
    refine sl_skip HF rfl rfl rfl rfl (by decide) ?_; clear HF; intro _ HF
    refine sl_skip HF rfl rfl rfl rfl (by decide) ?_; clear HF; intro _ HF
    refine sl_op HF rfl rfl (by decide) ?_; intro K hK; have e45 := HF.see 45 rfl; have e48 := HF.see 48 rfl; go_wp2_with fail; clear e45 e48 HF; intro _ HF
    refine sl_nil (wp_cond_true (HF.at 49 rfl) (wp_seq (wp_region_lit ?_)))
    refine sl_const HF rfl rfl (.inr rfl) (by decide) ?_; clear HF; intro _ HF
    have HF2 := HF.keep [4]
    simp only [pick, look] at HF2
    exact sl_nil (wp_ret (HBAD.out _ _ HF2 (Mod.refl _ _)))
  have q2 : decide (60 < c.vars) = false := by simpa using h2
  by_cases h3 : (4000 : Int) < (c.lits.length : Int)
  · have q3 : decide ((4000 : Int) < (c.lits.length : Int)) = true := by simpa using h3
    refine sl_op HF rfl rfl (by decide) ?_; intro K hK; have e2 := HF.see 2 rfl; go_wp2_with fail; clear e2 HF; intro _ HF
    refine sl_op HF rfl rfl (by decide) ?_; intro K hK; have e12 := HF.see 12 rfl; go_wp2_with fail; clear e12 HF; intro _ HF
    refine sl_op HF rfl rfl (by decide) ?_; intro K hK; have e13 := HF.see 13 rfl; go_wp2_with fail; clear e13 HF; intro _ HF
    refine sl_move HF rfl rfl (.inl rfl) (by decide) rfl ?_; clear HF; intro _ HF
    refine sl_want HF rfl rfl rfl rfl (by decide) ?_; intro K hK; have e2 := HF.see 2 rfl; go_wp2_with fail; clear e2 HF; intro _ HF
    refine sl_want HF rfl rfl rfl rfl (by decide) ?_; intro K hK; have e16 := HF.see 16 rfl; go_wp2_with fail; clear e16 HF; intro _ HF
    refine sl_want HF rfl rfl rfl rfl (by decide) ?_; intro K hK; have e2 := HF.see 2 rfl; go_wp2_with fail; clear e2 HF; intro _ HF
    refine sl_want HF rfl rfl rfl rfl (by decide) ?_; intro K hK; have e18 := HF.see 18 rfl; go_wp2_with fail; clear e18 HF; intro _ HF
    refine sl_want HF rfl rfl rfl rfl (by decide) ?_; intro K hK; have e17 := HF.see 17 rfl; have e19 := HF.see 19 rfl; go_wp2_with fail; clear e17 e19 HF; intro _ HF
    refine sl_op HF rfl rfl (by decide) ?_; intro K hK; have e15 := HF.see 15 rfl; have e20 := HF.see 20 rfl; go_wp2_with fail; clear e15 e20 HF; intro _ HF
    refine sl_move HF rfl rfl (.inl rfl) (by decide) rfl ?_; clear HF; intro _ HF
    refine sl_want HF rfl rfl rfl rfl (by decide) ?_; intro K hK; have e2 := HF.see 2 rfl; go_wp2_with fail; clear e2 HF; intro _ HF
    refine sl_want HF rfl rfl rfl rfl (by decide) ?_; intro K hK; have e23 := HF.see 23 rfl; go_wp2_with fail; clear e23 HF; intro _ HF
    refine sl_want HF rfl rfl rfl rfl (by decide) ?_; intro K hK; have e24 := HF.see 24 rfl; go_wp2_with fail; clear e24 HF; intro _ HF
    refine sl_op HF rfl rfl (by decide) ?_; intro K hK; have e22 := HF.see 22 rfl; have e25 := HF.see 25 rfl; go_wp2_with fail; clear e22 e25 HF; intro _ HF
    refine sl_move HF rfl rfl (.inl rfl) (by decide) rfl ?_; clear HF; intro _ HF
    refine sl_want HF rfl rfl rfl rfl (by decide) ?_; intro K hK; have e2 := HF.see 2 rfl; go_wp2_with fail; clear e2 HF; intro _ HF
    refine sl_want HF rfl rfl rfl rfl (by decide) ?_; intro K hK; have e28 := HF.see 28 rfl; go_wp2_with fail; clear e28 HF; intro _ HF
    refine sl_want HF rfl rfl rfl rfl (by decide) ?_; intro K hK; have e29 := HF.see 29 rfl; go_wp2_with fail; clear e29 HF; intro _ HF
    refine sl_want HF rfl rfl rfl rfl (by decide) ?_; intro K hK; have e30 := HF.see 30 rfl; go_wp2_with fail; clear e30 HF; intro _ HF
    refine sl_op HF rfl rfl (by decide) ?_; intro K hK; have e27 := HF.see 27 rfl; have e31 := HF.see 31 rfl; go_wp2_with fail; clear e27 e31 HF; intro _ HF
    refine sl_move HF rfl rfl (.inl rfl) (by decide) rfl ?_; clear HF; intro _ HF
    refine sl_skip HF rfl rfl rfl rfl (by decide) ?_; clear HF; intro _ HF
    refine sl_skip HF rfl rfl rfl rfl (by decide) ?_; clear HF; intro _ HF
    refine sl_skip HF rfl rfl rfl rfl (by decide) ?_; clear HF; intro _ HF
    refine sl_skip HF rfl rfl rfl rfl (by decide) ?_; clear HF; intro _ HF
    refine sl_op HF rfl rfl (by decide) ?_; intro K hK; have e33 := HF.see 33 rfl; have e37 := HF.see 37 rfl; go_wp2_with fail; clear e33 e37 HF; intro _ HF
    refine sl_move HF rfl rfl (.inl rfl) (by decide) rfl ?_; clear HF; intro _ HF
    refine sl_skip HF rfl rfl rfl rfl (by decide) ?_; clear HF; intro _ HF
    refine sl_skip HF rfl rfl rfl rfl (by decide) ?_; clear HF; intro _ HF
    refine sl_skip HF rfl rfl rfl rfl (by decide) ?_; clear HF; intro _ HF
    refine sl_skip HF rfl rfl rfl rfl (by decide) ?_; clear HF; intro _ HF
    refine sl_op HF rfl rfl (by decide) ?_; intro K hK; have e39 := HF.see 39 rfl; have e43 := HF.see 43 rfl; go_wp2_with fail; clear e39 e43 HF; intro _ HF
    refine sl_move HF rfl rfl (.inl rfl) (by decide) rfl ?_; clear HF; intro _ HF
    refine sl_skip HF rfl rfl rfl rfl (by decide) ?_; clear HF; intro _ HF
    refine sl_skip HF rfl rfl rfl rfl (by decide) ?_; clear HF; intro _ HF
    refine sl_skip HF rfl rfl rfl rfl (by decide) ?_; clear HF; intro _ HF
    refine sl_op HF rfl rfl (by decide) ?_; intro K hK; have e45 := HF.see 45 rfl; have e48 := HF.see 48 rfl; go_wp2_with fail; clear e45 e48 HF; intro _ HF
    refine sl_nil (wp_cond_true (HF.at 49 rfl) (wp_seq (wp_region_lit ?_)))
    refine sl_const HF rfl rfl (.inr rfl) (by decide) ?_; clear HF; intro _ HF
    have HF2 := HF.keep [4]
    simp only [pick, look] at HF2
    exact sl_nil (wp_ret (HBAD.out _ _ HF2 (Mod.refl _ _)))
  have q3 : decide ((4000 : Int) < (c.lits.length : Int)) = false := by simpa using h3
  by_cases h4 : (20000 : Int) < (c.ins.length : Int)
  · have q4 : decide ((20000 : Int) < (c.ins.length : Int)) = true := by simpa using h4
    refine sl_op HF rfl rfl (by decide) ?_; intro K hK; have e2 := HF.see 2 rfl; go_wp2_with fail; clear e2 HF; intro _ HF
    refine sl_op HF rfl rfl (by decide) ?_; intro K hK; have e12 := HF.see 12 rfl; go_wp2_with fail; clear e12 HF; intro _ HF
    refine sl_op HF rfl rfl (by decide) ?_; intro K hK; have e13 := HF.see 13 rfl; go_wp2_with fail; clear e13 HF; intro _ HF
    refine sl_move HF rfl rfl (.inl rfl) (by decide) rfl ?_; clear HF; intro _ HF
    refine sl_want HF rfl rfl rfl rfl (by decide) ?_; intro K hK; have e2 := HF.see 2 rfl; go_wp2_with fail; clear e2 HF; intro _ HF
    refine sl_want HF rfl rfl rfl rfl (by decide) ?_; intro K hK; have e16 := HF.see 16 rfl; go_wp2_with fail; clear e16 HF; intro _ HF
    refine sl_want HF rfl rfl rfl rfl (by decide) ?_; intro K hK; have e2 := HF.see 2 rfl; go_wp2_with fail; clear e2 HF; intro _ HF
    refine sl_want HF rfl rfl rfl rfl (by decide) ?_; intro K hK; have e18 := HF.see 18 rfl; go_wp2_with fail; clear e18 HF; intro _ HF
    refine sl_want HF rfl rfl rfl rfl (by decide) ?_; intro K hK; have e17 := HF.see 17 rfl; have e19 := HF.see 19 rfl; go_wp2_with fail; clear e17 e19 HF; intro _ HF
    refine sl_op HF rfl rfl (by decide) ?_; intro K hK; have e15 := HF.see 15 rfl; have e20 := HF.see 20 rfl; go_wp2_with fail; clear e15 e20 HF; intro _ HF
    refine sl_move HF rfl rfl (.inl rfl) (by decide) rfl ?_; clear HF; intro _ HF
    refine sl_want HF rfl rfl rfl rfl (by decide) ?_; intro K hK; have e2 := HF.see 2 rfl; go_wp2_with fail; clear e2 HF; intro _ HF
    refine sl_want HF rfl rfl rfl rfl (by decide) ?_; intro K hK; have e23 := HF.see 23 rfl; go_wp2_with fail; clear e23 HF; intro _ HF
    refine sl_want HF rfl rfl rfl rfl (by decide) ?_; intro K hK; have e24 := HF.see 24 rfl; go_wp2_with fail; clear e24 HF; intro _ HF
    refine sl_op HF rfl rfl (by decide) ?_; intro K hK; have e22 := HF.see 22 rfl; have e25 := HF.see 25 rfl; go_wp2_with fail; clear e22 e25 HF; intro _ HF
    refine sl_move HF rfl rfl (.inl rfl) (by decide) rfl ?_; clear HF; intro _ HF
    refine sl_want HF rfl rfl rfl rfl (by decide) ?_; intro K hK; have e2 := HF.see 2 rfl; go_wp2_with fail; clear e2 HF; intro _ HF
    refine sl_want HF rfl rfl rfl rfl (by decide) ?_; intro K hK; have e28 := HF.see 28 rfl; go_wp2_with fail; clear e28 HF; intro _ HF
    refine sl_want HF rfl rfl rfl rfl (by decide) ?_; intro K hK; have e29 := HF.see 29 rfl; go_wp2_with fail; clear e29 HF; intro _ HF
    refine sl_want HF rfl rfl rfl rfl (by decide) ?_; intro K hK; have e30 := HF.see 30 rfl; go_wp2_with fail; clear e30 HF; intro _ HF
    refine sl_op HF rfl rfl (by decide) ?_; intro K hK; have e27 := HF.see 27 rfl; have e31 := HF.see 31 rfl; go_wp2_with fail; clear e27 e31 HF; intro _ HF
    refine sl_move HF rfl rfl (.inl rfl) (by decide) rfl ?_; clear HF; intro _ HF
    refine sl_want HF rfl rfl rfl rfl (by decide) ?_; intro K hK; have e2 := HF.see 2 rfl; go_wp2_with fail; clear e2 HF; intro _ HF
    refine sl_want HF rfl rfl rfl rfl (by decide) ?_; intro K hK; have e34 := HF.see 34 rfl; go_wp2_with fail; clear e34 HF; intro _ HF
    refine sl_want HF rfl rfl rfl rfl (by decide) ?_; intro K hK; have e35 := HF.see 35 rfl; go_wp2_with fail; clear e35 HF; intro _ HF
    refine sl_want HF rfl rfl rfl rfl (by decide) ?_; intro K hK; have e36 := HF.see 36 rfl; go_wp2_with fail; clear e36 HF; intro _ HF
    refine sl_op HF rfl rfl (by decide) ?_; intro K hK; have e33 := HF.see 33 rfl; have e37 := HF.see 37 rfl; go_wp2_with fail; clear e33 e37 HF; intro _ HF
    refine sl_move HF rfl rfl (.inl rfl) (by decide) rfl ?_; clear HF; intro _ HF
    refine sl_skip HF rfl rfl rfl rfl (by decide) ?_; clear HF; intro _ HF
    refine sl_skip HF rfl rfl rfl rfl (by decide) ?_; clear HF; intro _ HF
    refine sl_skip HF rfl rfl rfl rfl (by decide) ?_; clear HF; intro _ HF
    refine sl_skip HF rfl rfl rfl rfl (by decide) ?_; clear HF; intro _ HF
    refine sl_op HF rfl rfl (by decide) ?_; intro K hK; have e39 := HF.see 39 rfl; have e43 := HF.see 43 rfl; go_wp2_with fail; clear e39 e43 HF; intro _ HF
    refine sl_move HF rfl rfl (.inl rfl) (by decide) rfl ?_; clear HF; intro _ HF
    refine sl_skip HF rfl rfl rfl rfl (by decide) ?_; clear HF; intro _ HF
    refine sl_skip HF rfl rfl rfl rfl (by decide) ?_; clear HF; intro _ HF
    refine sl_skip HF rfl rfl rfl rfl (by decide) ?_; clear HF; intro _ HF
    refine sl_op HF rfl rfl (by decide) ?_; intro K hK; have e45 := HF.see 45 rfl; have e48 := HF.see 48 rfl; go_wp2_with fail; clear e45 e48 HF; intro _ HF
    refine sl_nil (wp_cond_true (HF.at 49 rfl) (wp_seq (wp_region_lit ?_)))
    refine sl_const HF rfl rfl (.inr rfl) (by decide) ?_; clear HF; intro _ HF
    have HF2 := HF.keep [4]
    simp only [pick, look] at HF2
    exact sl_nil (wp_ret (HBAD.out _ _ HF2 (Mod.refl _ _)))
  have q4 : decide ((20000 : Int) < (c.ins.length : Int)) = false := by simpa using h4
  by_cases h5 : (4000 : Int) < (c.blocks.length : Int)
  · have q5 : decide ((4000 : Int) < (c.blocks.length : Int)) = true := by simpa using h5
    refine sl_op HF rfl rfl (by decide) ?_; intro K hK; have e2 := HF.see 2 rfl; go_wp2_with fail; clear e2 HF; intro _ HF
    refine sl_op HF rfl rfl (by decide) ?_; intro K hK; have e12 := HF.see 12 rfl; go_wp2_with fail; clear e12 HF; intro _ HF
    refine sl_op HF rfl rfl (by decide) ?_; intro K hK; have e13 := HF.see 13 rfl; go_wp2_with fail; clear e13 HF; intro _ HF
    refine sl_move HF rfl rfl (.inl rfl) (by decide) rfl ?_; clear HF; intro _ HF
    refine sl_want HF rfl rfl rfl rfl (by decide) ?_; intro K hK; have e2 := HF.see 2 rfl; go_wp2_with fail; clear e2 HF; intro _ HF
    refine sl_want HF rfl rfl rfl rfl (by decide) ?_; intro K hK; have e16 := HF.see 16 rfl; go_wp2_with fail; clear e16 HF; intro _ HF
    refine sl_want HF rfl rfl rfl rfl (by decide) ?_; intro K hK; have e2 := HF.see 2 rfl; go_wp2_with fail; clear e2 HF; intro _ HF
    refine sl_want HF rfl rfl rfl rfl (by decide) ?_; intro K hK; have e18 := HF.see 18 rfl; go_wp2_with fail; clear e18 HF; intro _ HF
    refine sl_want HF rfl rfl rfl rfl (by decide) ?_; intro K hK; have e17 := HF.see 17 rfl; have e19 := HF.see 19 rfl; go_wp2_with fail; clear e17 e19 HF; intro _ HF
    refine sl_op HF rfl rfl (by decide) ?_; intro K hK; have e15 := HF.see 15 rfl; have e20 := HF.see 20 rfl; go_wp2_with fail; clear e15 e20 HF; intro _ HF
    refine sl_move HF rfl rfl (.inl rfl) (by decide) rfl ?_; clear HF; intro _ HF
    refine sl_want HF rfl rfl rfl rfl (by decide) ?_; intro K hK; have e2 := HF.see 2 rfl; go_wp2_with fail; clear e2 HF; intro _ HF
    refine sl_want HF rfl rfl rfl rfl (by decide) ?_; intro K hK; have e23 := HF.see 23 rfl; go_wp2_with fail; clear e23 HF; intro _ HF
    refine sl_want HF rfl rfl rfl rfl (by decide) ?_; intro K hK; have e24 := HF.see 24 rfl; go_wp2_with fail; clear e24 HF; intro _ HF
    refine sl_op HF rfl rfl (by decide) ?_; intro K hK; have e22 := HF.see 22 rfl; have e25 := HF.see 25 rfl; go_wp2_with fail; clear e22 e25 HF; intro _ HF
    refine sl_move HF rfl rfl (.inl rfl) (by decide) rfl ?_; clear HF; intro _ HF
    refine sl_want HF rfl rfl rfl rfl (by decide) ?_; intro K hK; have e2 := HF.see 2 rfl; go_wp2_with fail; clear e2 HF; intro _ HF
    refine sl_want HF rfl rfl rfl rfl (by decide) ?_; intro K hK; have e28 := HF.see 28 rfl; go_wp2_with fail; clear e28 HF; intro _ HF
    refine sl_want HF rfl rfl rfl rfl (by decide) ?_; intro K hK; have e29 := HF.see 29 rfl; go_wp2_with fail; clear e29 HF; intro _ HF
    refine sl_want HF rfl rfl rfl rfl (by decide) ?_; intro K hK; have e30 := HF.see 30 rfl; go_wp2_with fail; clear e30 HF; intro _ HF
    refine sl_op HF rfl rfl (by decide) ?_; intro K hK; have e27 := HF.see 27 rfl; have e31 := HF.see 31 rfl; go_wp2_with fail; clear e27 e31 HF; intro _ HF
    refine sl_move HF rfl rfl (.inl rfl) (by decide) rfl ?_; clear HF; intro _ HF
    refine sl_want HF rfl rfl rfl rfl (by decide) ?_; intro K hK; have e2 := HF.see 2 rfl; go_wp2_with fail; clear e2 HF; intro _ HF
    refine sl_want HF rfl rfl rfl rfl (by decide) ?_; intro K hK; have e34 := HF.see 34 rfl; go_wp2_with fail; clear e34 HF; intro _ HF
    refine sl_want HF rfl rfl rfl rfl (by decide) ?_; intro K hK; have e35 := HF.see 35 rfl; go_wp2_with fail; clear e35 HF; intro _ HF
    refine sl_want HF rfl rfl rfl rfl (by decide) ?_; intro K hK; have e36 := HF.see 36 rfl; go_wp2_with fail; clear e36 HF; intro _ HF
    refine sl_op HF rfl rfl (by decide) ?_; intro K hK; have e33 := HF.see 33 rfl; have e37 := HF.see 37 rfl; go_wp2_with fail; clear e33 e37 HF; intro _ HF
    refine sl_move HF rfl rfl (.inl rfl) (by decide) rfl ?_; clear HF; intro _ HF
    refine sl_want HF rfl rfl rfl rfl (by decide) ?_; intro K hK; have e2 := HF.see 2 rfl; go_wp2_with fail; clear e2 HF; intro _ HF
    refine sl_want HF rfl rfl rfl rfl (by decide) ?_; intro K hK; have e40 := HF.see 40 rfl; go_wp2_with fail; clear e40 HF; intro _ HF
    refine sl_want HF rfl rfl rfl rfl (by decide) ?_; intro K hK; have e41 := HF.see 41 rfl; go_wp2_with fail; clear e41 HF; intro _ HF
    refine sl_want HF rfl rfl rfl rfl (by decide) ?_; intro K hK; have e42 := HF.see 42 rfl; go_wp2_with fail; clear e42 HF; intro _ HF
    refine sl_op HF rfl rfl (by decide) ?_; intro K hK; have e39 := HF.see 39 rfl; have e43 := HF.see 43 rfl; go_wp2_with fail; clear e39 e43 HF; intro _ HF
    refine sl_move HF rfl rfl (.inl rfl) (by decide) rfl ?_; clear HF; intro _ HF
    refine sl_skip HF rfl rfl rfl rfl (by decide) ?_; clear HF; intro _ HF
    refine sl_skip HF rfl rfl rfl rfl (by decide) ?_; clear HF; intro _ HF
    refine sl_skip HF rfl rfl rfl rfl (by decide) ?_; clear HF; intro _ HF
    refine sl_op HF rfl rfl (by decide) ?_; intro K hK; have e45 := HF.see 45 rfl; have e48 := HF.see 48 rfl; go_wp2_with fail; clear e45 e48 HF; intro _ HF
    refine sl_nil (wp_cond_true (HF.at 49 rfl) (wp_seq (wp_region_lit ?_)))
    refine sl_const HF rfl rfl (.inr rfl) (by decide) ?_; clear HF; intro _ HF
    have HF2 := HF.keep [4]
    simp only [pick, look] at HF2
    exact sl_nil (wp_ret (HBAD.out _ _ HF2 (Mod.refl _ _)))
  have q5 : decide ((4000 : Int) < (c.blocks.length : Int)) = false := by simpa using h5
  by_cases h6 : (20 : Int) < (n5 : Int)
  · have q6 : decide ((20 : Int) < (n5 : Int)) = true := by simpa using h6
    refine sl_op HF rfl rfl (by decide) ?_; intro K hK; have e2 := HF.see 2 rfl; go_wp2_with fail; clear e2 HF; intro _ HF
    refine sl_op HF rfl rfl (by decide) ?_; intro K hK; have e12 := HF.see 12 rfl; go_wp2_with fail; clear e12 HF; intro _ HF
    refine sl_op HF rfl rfl (by decide) ?_; intro K hK; have e13 := HF.see 13 rfl; go_wp2_with fail; clear e13 HF; intro _ HF
    refine sl_move HF rfl rfl (.inl rfl) (by decide) rfl ?_; clear HF; intro _ HF
    refine sl_want HF rfl rfl rfl rfl (by decide) ?_; intro K hK; have e2 := HF.see 2 rfl; go_wp2_with fail; clear e2 HF; intro _ HF
    refine sl_want HF rfl rfl rfl rfl (by decide) ?_; intro K hK; have e16 := HF.see 16 rfl; go_wp2_with fail; clear e16 HF; intro _ HF
    refine sl_want HF rfl rfl rfl rfl (by decide) ?_; intro K hK; have e2 := HF.see 2 rfl; go_wp2_with fail; clear e2 HF; intro _ HF
    refine sl_want HF rfl rfl rfl rfl (by decide) ?_; intro K hK; have e18 := HF.see 18 rfl; go_wp2_with fail; clear e18 HF; intro _ HF
    refine sl_want HF rfl rfl rfl rfl (by decide) ?_; intro K hK; have e17 := HF.see 17 rfl; have e19 := HF.see 19 rfl; go_wp2_with fail; clear e17 e19 HF; intro _ HF
    refine sl_op HF rfl rfl (by decide) ?_; intro K hK; have e15 := HF.see 15 rfl; have e20 := HF.see 20 rfl; go_wp2_with fail; clear e15 e20 HF; intro _ HF
    refine sl_move HF rfl rfl (.inl rfl) (by decide) rfl ?_; clear HF; intro _ HF
    refine sl_want HF rfl rfl rfl rfl (by decide) ?_; intro K hK; have e2 := HF.see 2 rfl; go_wp2_with fail; clear e2 HF; intro _ HF
    refine sl_want HF rfl rfl rfl rfl (by decide) ?_; intro K hK; have e23 := HF.see 23 rfl; go_wp2_with fail; clear e23 HF; intro _ HF
    refine sl_want HF rfl rfl rfl rfl (by decide) ?_; intro K hK; have e24 := HF.see 24 rfl; go_wp2_with fail; clear e24 HF; intro _ HF
    refine sl_op HF rfl rfl (by decide) ?_; intro K hK; have e22 := HF.see 22 rfl; have e25 := HF.see 25 rfl; go_wp2_with fail; clear e22 e25 HF; intro _ HF
    refine sl_move HF rfl rfl (.inl rfl) (by decide) rfl ?_; clear HF; intro _ HF
    refine sl_want HF rfl rfl rfl rfl (by decide) ?_; intro K hK; have e2 := HF.see 2 rfl; go_wp2_with fail; clear e2 HF; intro _ HF
    refine sl_want HF rfl rfl rfl rfl (by decide) ?_; intro K hK; have e28 := HF.see 28 rfl; go_wp2_with fail; clear e28 HF; intro _ HF
    refine sl_want HF rfl rfl rfl rfl (by decide) ?_; intro K hK; have e29 := HF.see 29 rfl; go_wp2_with fail; clear e29 HF; intro _ HF
    refine sl_want HF rfl rfl rfl rfl (by decide) ?_; intro K hK; have e30 := HF.see 30 rfl; go_wp2_with fail; clear e30 HF; intro _ HF
    refine sl_op HF rfl rfl (by decide) ?_; intro K hK; have e27 := HF.see 27 rfl; have e31 := HF.see 31 rfl; go_wp2_with fail; clear e27 e31 HF; intro _ HF
    refine sl_move HF rfl rfl (.inl rfl) (by decide) rfl ?_; clear HF; intro _ HF
    refine sl_want HF rfl rfl rfl rfl (by decide) ?_; intro K hK; have e2 := HF.see 2 rfl; go_wp2_with fail; clear e2 HF; intro _ HF
    refine sl_want HF rfl rfl rfl rfl (by decide) ?_; intro K hK; have e34 := HF.see 34 rfl; go_wp2_with fail; clear e34 HF; intro _ HF
    refine sl_want HF rfl rfl rfl rfl (by decide) ?_; intro K hK; have e35 := HF.see 35 rfl; go_wp2_with fail; clear e35 HF; intro _ HF
    refine sl_want HF rfl rfl rfl rfl (by decide) ?_; intro K hK; have e36 := HF.see 36 rfl; go_wp2_with fail; clear e36 HF; intro _ HF
    refine sl_op HF rfl rfl (by decide) ?_; intro K hK; have e33 := HF.see 33 rfl; have e37 := HF.see 37 rfl; go_wp2_with fail; clear e33 e37 HF; intro _ HF
    refine sl_move HF rfl rfl (.inl rfl) (by decide) rfl ?_; clear HF; intro _ HF
    refine sl_want HF rfl rfl rfl rfl (by decide) ?_; intro K hK; have e2 := HF.see 2 rfl; go_wp2_with fail; clear e2 HF; intro _ HF
    refine sl_want HF rfl rfl rfl rfl (by decide) ?_; intro K hK; have e40 := HF.see 40 rfl; go_wp2_with fail; clear e40 HF; intro _ HF
    refine sl_want HF rfl rfl rfl rfl (by decide) ?_; intro K hK; have e41 := HF.see 41 rfl; go_wp2_with fail; clear e41 HF; intro _ HF
    refine sl_want HF rfl rfl rfl rfl (by decide) ?_; intro K hK; have e42 := HF.see 42 rfl; go_wp2_with fail; clear e42 HF; intro _ HF
    refine sl_op HF rfl rfl (by decide) ?_; intro K hK; have e39 := HF.see 39 rfl; have e43 := HF.see 43 rfl; go_wp2_with fail; clear e39 e43 HF; intro _ HF
    refine sl_move HF rfl rfl (.inl rfl) (by decide) rfl ?_; clear HF; intro _ HF
    refine sl_want HF rfl rfl rfl rfl (by decide) ?_; intro K hK; have e1 := HF.see 1 rfl; go_wp2_with fail; clear e1 HF; intro _ HF
    refine sl_want HF rfl rfl rfl rfl (by decide) ?_; intro K hK; have e46 := HF.see 46 rfl; go_wp2_with fail; clear e46 HF; intro _ HF
    refine sl_want HF rfl rfl rfl rfl (by decide) ?_; intro K hK; have e47 := HF.see 47 rfl; go_wp2_with fail; clear e47 HF; intro _ HF
    refine sl_op HF rfl rfl (by decide) ?_; intro K hK; have e45 := HF.see 45 rfl; have e48 := HF.see 48 rfl; go_wp2_with fail; clear e45 e48 HF; intro _ HF
    refine sl_nil (wp_cond_true (HF.at 49 rfl) (wp_seq (wp_region_lit ?_)))
    refine sl_const HF rfl rfl (.inr rfl) (by decide) ?_; clear HF; intro _ HF
    have HF2 := HF.keep [4]
    simp only [pick, look] at HF2
    exact sl_nil (wp_ret (HBAD.out _ _ HF2 (Mod.refl _ _)))
  have q6 : decide ((20 : Int) < (n5 : Int)) = false := by simpa using h6
  refine sl_op HF rfl rfl (by decide) ?_; intro K hK; have e2 := HF.see 2 rfl; go_wp2_with fail; clear e2 HF; intro _ HF
  refine sl_op HF rfl rfl (by decide) ?_; intro K hK; have e12 := HF.see 12 rfl; go_wp2_with fail; clear e12 HF; intro _ HF
  refine sl_op HF rfl rfl (by decide) ?_; intro K hK; have e13 := HF.see 13 rfl; go_wp2_with fail; clear e13 HF; intro _ HF
  refine sl_move HF rfl rfl (.inl rfl) (by decide) rfl ?_; clear HF; intro _ HF
  refine sl_want HF rfl rfl rfl rfl (by decide) ?_; intro K hK; have e2 := HF.see 2 rfl; go_wp2_with fail; clear e2 HF; intro _ HF
  refine sl_want HF rfl rfl rfl rfl (by decide) ?_; intro K hK; have e16 := HF.see 16 rfl; go_wp2_with fail; clear e16 HF; intro _ HF
  refine sl_want HF rfl rfl rfl rfl (by decide) ?_; intro K hK; have e2 := HF.see 2 rfl; go_wp2_with fail; clear e2 HF; intro _ HF
  refine sl_want HF rfl rfl rfl rfl (by decide) ?_; intro K hK; have e18 := HF.see 18 rfl; go_wp2_with fail; clear e18 HF; intro _ HF
  refine sl_want HF rfl rfl rfl rfl (by decide) ?_; intro K hK; have e17 := HF.see 17 rfl; have e19 := HF.see 19 rfl; go_wp2_with fail; clear e17 e19 HF; intro _ HF
  refine sl_op HF rfl rfl (by decide) ?_; intro K hK; have e15 := HF.see 15 rfl; have e20 := HF.see 20 rfl; go_wp2_with fail; clear e15 e20 HF; intro _ HF
  refine sl_move HF rfl rfl (.inl rfl) (by decide) rfl ?_; clear HF; intro _ HF
  refine sl_want HF rfl rfl rfl rfl (by decide) ?_; intro K hK; have e2 := HF.see 2 rfl; go_wp2_with fail; clear e2 HF; intro _ HF
  refine sl_want HF rfl rfl rfl rfl (by decide) ?_; intro K hK; have e23 := HF.see 23 rfl; go_wp2_with fail; clear e23 HF; intro _ HF
  refine sl_want HF rfl rfl rfl rfl (by decide) ?_; intro K hK; have e24 := HF.see 24 rfl; go_wp2_with fail; clear e24 HF; intro _ HF
  refine sl_op HF rfl rfl (by decide) ?_; intro K hK; have e22 := HF.see 22 rfl; have e25 := HF.see 25 rfl; go_wp2_with fail; clear e22 e25 HF; intro _ HF
  refine sl_move HF rfl rfl (.inl rfl) (by decide) rfl ?_; clear HF; intro _ HF
  refine sl_want HF rfl rfl rfl rfl (by decide) ?_; intro K hK; have e2 := HF.see 2 rfl; go_wp2_with fail; clear e2 HF; intro _ HF
  refine sl_want HF rfl rfl rfl rfl (by decide) ?_; intro K hK; have e28 := HF.see 28 rfl; go_wp2_with fail; clear e28 HF; intro _ HF
  refine sl_want HF rfl rfl rfl rfl (by decide) ?_; intro K hK; have e29 := HF.see 29 rfl; go_wp2_with fail; clear e29 HF; intro _ HF
  refine sl_want HF rfl rfl rfl rfl (by decide) ?_; intro K hK; have e30 := HF.see 30 rfl; go_wp2_with fail; clear e30 HF; intro _ HF
  refine sl_op HF rfl rfl (by decide) ?_; intro K hK; have e27 := HF.see 27 rfl; have e31 := HF.see 31 rfl; go_wp2_with fail; clear e27 e31 HF; intro _ HF
  refine sl_move HF rfl rfl (.inl rfl) (by decide) rfl ?_; clear HF; intro _ HF
  refine sl_want HF rfl rfl rfl rfl (by decide) ?_; intro K hK; have e2 := HF.see 2 rfl; go_wp2_with fail; clear e2 HF; intro _ HF
  refine sl_want HF rfl rfl rfl rfl (by decide) ?_; intro K hK; have e34 := HF.see 34 rfl; go_wp2_with fail; clear e34 HF; intro _ HF
  refine sl_want HF rfl rfl rfl rfl (by decide) ?_; intro K hK; have e35 := HF.see 35 rfl; go_wp2_with fail; clear e35 HF; intro _ HF
  refine sl_want HF rfl rfl rfl rfl (by decide) ?_; intro K hK; have e36 := HF.see 36 rfl; go_wp2_with fail; clear e36 HF; intro _ HF
  refine sl_op HF rfl rfl (by decide) ?_; intro K hK; have e33 := HF.see 33 rfl; have e37 := HF.see 37 rfl; go_wp2_with fail; clear e33 e37 HF; intro _ HF
  refine sl_move HF rfl rfl (.inl rfl) (by decide) rfl ?_; clear HF; intro _ HF
  refine sl_want HF rfl rfl rfl rfl (by decide) ?_; intro K hK; have e2 := HF.see 2 rfl; go_wp2_with fail; clear e2 HF; intro _ HF
  refine sl_want HF rfl rfl rfl rfl (by decide) ?_; intro K hK; have e40 := HF.see 40 rfl; go_wp2_with fail; clear e40 HF; intro _ HF
  refine sl_want HF rfl rfl rfl rfl (by decide) ?_; intro K hK; have e41 := HF.see 41 rfl; go_wp2_with fail; clear e41 HF; intro _ HF
  refine sl_want HF rfl rfl rfl rfl (by decide) ?_; intro K hK; have e42 := HF.see 42 rfl; go_wp2_with fail; clear e42 HF; intro _ HF
  refine sl_op HF rfl rfl (by decide) ?_; intro K hK; have e39 := HF.see 39 rfl; have e43 := HF.see 43 rfl; go_wp2_with fail; clear e39 e43 HF; intro _ HF
  refine sl_move HF rfl rfl (.inl rfl) (by decide) rfl ?_; clear HF; intro _ HF
  refine sl_want HF rfl rfl rfl rfl (by decide) ?_; intro K hK; have e1 := HF.see 1 rfl; go_wp2_with fail; clear e1 HF; intro _ HF
  refine sl_want HF rfl rfl rfl rfl (by decide) ?_; intro K hK; have e46 := HF.see 46 rfl; go_wp2_with fail; clear e46 HF; intro _ HF
  refine sl_want HF rfl rfl rfl rfl (by decide) ?_; intro K hK; have e47 := HF.see 47 rfl; go_wp2_with fail; clear e47 HF; intro _ HF
  refine sl_op HF rfl rfl (by decide) ?_; intro K hK; have e45 := HF.see 45 rfl; have e48 := HF.see 48 rfl; go_wp2_with fail; clear e45 e48 HF; intro _ HF
  refine sl_nil (wp_cond_false (HF.at 49 rfl) (wp_skip (sl_then (wp_seq (wp_seq (wp_region_lit ?_))))))
  have HF2 := HF.keep [1, 2]
  simp only [pick, look, argL] at HF2
  clear HF q0 q1 q2 q3 q4 q5 q6 k0 k1 k2 k3 k4
  have HF := HF2
  clear HF2
  have hn20 : n5 ≤ 20 := by omega
  have HKF := Lib.hid (show KF w1 c v ar rows A5 n5 c5 from ⟨HFC.out, HCC.out, HA.out, hn20, HT.out.lits⟩)
  obtain ⟨cl, hcl⟩ : ∃ cl, c.cls = cl := ⟨_, rfl⟩
  rw [hcl] at k5 hcls
  have HCLS := Lib.hid hcl
  clear hcl
  have hrest : ((ar = [] → nmClass cl = true) ∧ (ar ≠ [] → cl = [])) → ∀ a', Sl 153 [(1, .slice A5 n5 c5), (2, .pointer (some ⟨g2, 0, none⟩))] a' → (part [1, 1, 1] rtBody).wp Tryd.prog (bodyPost Tryd.prog Tryd.f15 (fun e w' => RRt c ar w e w')) a' w1 := by
    clear HF k5
    intro hnm a2 HF
    have HNM := Lib.hid hnm
    clear hnm
    conv => arg 2; whnf
    refine wp_seq (wp_seq (wp_region_lit ?_))
    refine sl_const HF rfl rfl (.inr rfl) (by decide) ?_; clear HF; intro _ HF
    have HF2 := HF.keep [1, 2, 5]
    simp only [pick, look] at HF2
    refine sl_nil (rt_lits HF2 HFC.out HB1.out (by omega) (Mod.refl _ _) ?_ ?_)
    · intro a' w' h1 h2
      dsimp only [Exit.then]
      exact HBAD.out _ _ h1 h2
    intro a3 w3 HF hlb hm3
    have HLB := Lib.hid hlb
    have HM3 := Lib.hid hm3
    clear hlb hm3 HF2
    refine sl_then (wp_seq (wp_seq (wp_region_lit ?_)))
    refine sl_const HF rfl rfl (.inr rfl) (by decide) ?_; clear HF; intro _ HF
    have HF2 := HF.keep [1, 2, 7]
    simp only [pick, look] at HF2
    refine sl_nil (rt_ins (w0 := w1) HF2 HKF.out HB1.out (by omega) HM3.out ?_ ?_)
    · intro a' w' h1 h2
      dsimp only [Exit.then]
      exact HBAD.out _ _ h1 h2
    intro a4 w4 HF hmy hm4
    have HMY := Lib.hid hmy
    have HM4 := Lib.hid hm4
    clear hmy hm4 HF2
    obtain ⟨k0, k1, k2, k3, k4, k5⟩ := code_boxed (HB1.out.keep HM4.out id)
    have HHG := Lib.hid (rHeights_any c v w4 (fun w' h => HFC.out w' (HM4.out.trans h)) (by omega) (fun x hx => ins_fit (HMY.out x hx)))
    unfold codeArr at HHG
    refine sl_then (wp_seq (wp_region_lit ?_))
    refine sl_op HF rfl rfl (by decide) ?_; intro K hK; have e2 := HF.see 2 rfl; go_wp2_with fail; clear e2 HF; intro _ HF
    refine sl_op HF rfl rfl (by decide) ?_; intro K hK; have e126 := HF.see 126 rfl; go_wp2_with fail
    refine HHG.out.mono ?_
    rintro e w5 ⟨vh, mh, ok, rfl, hok, hm5⟩
    have HOKK := Lib.hid hok
    have HM5 := Lib.hid (HM4.out.trans hm5)
    clear k0 k1 k2 k3 k4 k5 HHG hm5 hok
    go_wp2_with fail; clear e126 HF; intro _ HF
    refine sl_move HF rfl rfl (.inl rfl) (by decide) rfl ?_; clear HF; intro _ HF
    refine sl_op HF rfl rfl (by decide) ?_; intro K hK; have e125 := HF.see 125 rfl; go_wp2_with fail; clear e125 HF; intro _ HF
    refine sl_op HF rfl rfl (by decide) ?_; intro K hK; have e125 := HF.see 125 rfl; go_wp2_with fail; clear e125 HF; intro _ HF
    refine sl_op HF rfl rfl (by decide) ?_; intro K hK; have e125 := HF.see 125 rfl; go_wp2_with fail; clear e125 HF; intro _ HF
    refine sl_move HF rfl rfl (.inr rfl) (by decide) rfl ?_; clear HF; intro _ HF
    refine sl_move HF rfl rfl (.inr rfl) (by decide) rfl ?_; clear HF; intro _ HF
    refine sl_move HF rfl rfl (.inr rfl) (by decide) rfl ?_; clear HF; intro _ HF
    refine sl_nil (wp_seq (wp_seq (wp_region_lit ?_)))
    rcases ok with _ | _
    · skip
      refine sl_move HF rfl rfl (.inl rfl) (by decide) rfl ?_; clear HF; intro _ HF
      refine sl_op HF rfl rfl (by decide) ?_; intro K hK; have e131 := HF.see 131 rfl; go_wp2_with fail; clear e131 HF; intro _ HF
      refine sl_nil (wp_cond_true (HF.at 132 rfl) (wp_seq (wp_region_lit ?_)))
      refine sl_const HF rfl rfl (.inr rfl) (by decide) ?_; clear HF; intro _ HF
      have HF2 := HF.keep [4]
      simp only [pick, look] at HF2
      exact sl_nil (wp_ret (HBAD.out _ _ HF2 HM5.out))
    · skip
      refine sl_move HF rfl rfl (.inl rfl) (by decide) rfl ?_; clear HF; intro _ HF
      refine sl_op HF rfl rfl (by decide) ?_; intro K hK; have e131 := HF.see 131 rfl; go_wp2_with fail; clear e131 HF; intro _ HF
      refine sl_nil (wp_cond_false (HF.at 132 rfl) (wp_skip (sl_then (wp_seq (wp_seq (wp_region_lit ?_))))))
      refine sl_const HF rfl rfl (.inr rfl) (by decide) ?_; clear HF; intro _ HF
      have HF2 := HF.keep [1, 2, 11]
      simp only [pick, look] at HF2
      refine sl_nil (rt_blocks (w0 := w1) HF2 HKF.out HB1.out (by omega) HT.out HM5.out ?_ ?_ ?_)
      · intro b hb v' ar' rows' A' n' c' w' h1 h2 h3 h4 h5
        obtain ⟨j, hj⟩ := List.getElem?_of_mem hb
        exact IH.out b (by have := block_lt hj; have := HSZ.out; omega) v' ar' rows' A' n' c' w' h1 h2 h3 h4 h5
      · intro a' w' h1 h2
        dsimp only [Exit.then]
        exact HBAD.out _ _ h1 h2
      intro a6 w6 HF hbl hm6
      have HBL := Lib.hid hbl
      have HM6 := Lib.hid (HM1.out.trans hm6)
      clear hbl hm6 HF2
      refine sl_then (wp_seq (wp_region_lit ?_))
      refine sl_const HF rfl rfl (.inr rfl) (by decide) ?_; clear HF; intro _ HF
      refine sl_nil (wp_ret (sl_ret1 HF rfl rfl ⟨true, rfl, fun _ => ?_, HM6.out⟩))
      obtain ⟨h1, hfit⟩ := HOKK.out (by trivial)
      exact .mk c ar ⟨by omega, by omega, by omega, by omega, HLB.out, h1, by omega, by omega, by rw [← HA.out.cnt]; omega, fun h => by rw [HCLS.out]; exact HNM.out.1 h, fun h => by rw [HCLS.out]; exact HNM.out.2 h, HMY.out⟩ hfit HBL.out
  have HRE := Lib.hid hrest
  clear hrest h0 h1 h2 h3 h4 h5 h6
  by_cases hn0 : n5 = 0
  · have har : ar = [] := List.eq_nil_of_length_eq_zero (by rw [← HA.out.cnt]; exact hn0)
    have hq : ((n5 : Int) == 0) = true := by simp [hn0]
    have hq2 : decide ((0 : Int) < (n5 : Int)) = false := by simp [hn0]
    have hq3 : decide (0 < n5) = false := by simp [hn0]
    have HCL := Lib.hid (r6Class_any cl (by omega) w1)
    have HAR := Lib.hid har
    clear har hn0
    refine sl_move HF rfl rfl (.inl rfl) (by decide) rfl ?_; clear HF; intro _ HF
    refine sl_op HF rfl rfl (by decide) ?_; intro K hK; have e50 := HF.see 50 rfl; go_wp2_with fail; clear e50 HF; intro _ HF
    refine sl_op HF rfl rfl (by decide) ?_; intro K hK; have e51 := HF.see 51 rfl; go_wp2_with fail; clear e51 HF; intro _ HF
    refine sl_move HF rfl rfl (.inl rfl) (by decide) rfl ?_; clear HF; intro _ HF
    refine sl_want HF rfl rfl rfl rfl (by decide) ?_; intro K hK; have e2 := HF.see 2 rfl; go_wp2_with fail; clear e2 HF; intro _ HF
    refine sl_want HF rfl rfl rfl rfl (by decide) ?_; intro K hK; have e54 := HF.see 54 rfl; go_wp2_with fail; clear e54 HF; intro _ HF
    refine sl_want HF rfl rfl rfl rfl (by decide) ?_; intro K hK; have e55 := HF.see 55 rfl; go_wp2_with fail
    refine HCL.out.mono ?_
    rintro e w2 ⟨rfl, rfl⟩
    go_wp2_with fail; clear e55 HF; intro _ HF
    rcases hcc : nmClass cl with _ | _
    · rw [hcc] at HF
      refine sl_want HF rfl rfl rfl rfl (by decide) ?_; intro K hK; have e56 := HF.see 56 rfl; go_wp2_with fail; clear e56 HF; intro _ HF
      refine sl_op HF rfl rfl (by decide) ?_; intro K hK; have e53 := HF.see 53 rfl; have e57 := HF.see 57 rfl; go_wp2_with fail; clear e53 e57 HF; intro _ HF
      refine sl_move HF rfl rfl (.inl rfl) (by decide) rfl ?_; clear HF; intro _ HF
      refine sl_skip HF rfl rfl rfl rfl (by decide) ?_; clear HF; intro _ HF
      refine sl_skip HF rfl rfl rfl rfl (by decide) ?_; clear HF; intro _ HF
      refine sl_skip HF rfl rfl rfl rfl (by decide) ?_; clear HF; intro _ HF
      refine sl_skip HF rfl rfl rfl rfl (by decide) ?_; clear HF; intro _ HF
      refine sl_skip_u HF rfl rfl rfl rfl (by decide) ?_; clear HF; intro _ HF
      refine sl_skip_u HF rfl rfl rfl rfl (by decide) ?_; clear HF; intro _ HF
      refine sl_skip_u HF rfl rfl rfl rfl (by decide) ?_; clear HF; intro _ HF
      refine sl_skip HF rfl rfl rfl rfl (by decide) ?_; clear HF; intro _ HF
      refine sl_op HF rfl rfl (by decide) ?_; intro K hK; have e59 := HF.see 59 rfl; have e67 := HF.see 67 rfl; go_wp2_with fail; clear e59 e67 HF; intro _ HF
      refine sl_nil (wp_cond_true (HF.at 68 rfl) (wp_seq (wp_region_lit ?_)))
      refine sl_const HF rfl rfl (.inr rfl) (by decide) ?_; clear HF; intro _ HF
      have HF2 := HF.keep [4]
      simp only [pick, look] at HF2
      exact sl_nil (wp_ret (HBAD.out _ _ HF2 (Mod.refl _ _)))
    · rw [hcc] at HF
      have HH := Lib.hid hcc
      refine sl_want HF rfl rfl rfl rfl (by decide) ?_; intro K hK; have e56 := HF.see 56 rfl; go_wp2_with fail; clear e56 HF; intro _ HF
      refine sl_op HF rfl rfl (by decide) ?_; intro K hK; have e53 := HF.see 53 rfl; have e57 := HF.see 57 rfl; go_wp2_with fail; clear e53 e57 HF; intro _ HF
      refine sl_move HF rfl rfl (.inl rfl) (by decide) rfl ?_; clear HF; intro _ HF
      refine sl_want HF rfl rfl rfl rfl (by decide) ?_; intro K hK; have e1 := HF.see 1 rfl; go_wp2_with fail; clear e1 HF; intro _ HF
      refine sl_want HF rfl rfl rfl rfl (by decide) ?_; intro K hK; have e60 := HF.see 60 rfl; go_wp2_with fail; clear e60 HF; intro _ HF
      refine sl_want HF rfl rfl rfl rfl (by decide) ?_; intro K hK; have e61 := HF.see 61 rfl; go_wp2_with fail; clear e61 HF; intro _ HF
      refine sl_want HF rfl rfl rfl rfl (by decide) ?_; intro K hK; have e62 := HF.see 62 rfl; go_wp2_with fail; clear e62 HF; intro _ HF
      refine sl_skip HF rfl rfl rfl rfl (by decide) ?_; clear HF; intro _ HF
      refine sl_skip HF rfl rfl rfl rfl (by decide) ?_; clear HF; intro _ HF
      refine sl_skip HF rfl rfl rfl rfl (by decide) ?_; clear HF; intro _ HF
      refine sl_want HF rfl rfl rfl rfl (by decide) ?_; intro K hK; have e63 := HF.see 63 rfl; have e66 := HF.see 66 rfl; go_wp2_with fail; clear e63 e66 HF; intro _ HF
      refine sl_op HF rfl rfl (by decide) ?_; intro K hK; have e59 := HF.see 59 rfl; have e67 := HF.see 67 rfl; go_wp2_with fail; clear e59 e67 HF; intro _ HF
      refine sl_nil (wp_cond_false (HF.at 68 rfl) (wp_skip (sl_then ?_)))
      have HF2 := HF.keep [1, 2]
      simp only [pick, look] at HF2
      exact HRE.out ⟨fun _ => HH.out, fun h => absurd HAR.out h⟩ _ HF2
  · have hq : ((n5 : Int) == 0) = false := by simpa using hn0
    have hq2 : decide ((0 : Int) < (n5 : Int)) = true := by simp; omega
    have hq3 : decide (0 < n5) = true := by simp; omega
    have HAR := Lib.hid (show ar ≠ [] from fun h => hn0 (by rw [HA.out.cnt, h]; rfl))
    clear hn0
    rcases cl with _ | ⟨t0, cl⟩
    · have hse : (str []).toList = [] := cstr_toList []
      refine sl_move HF rfl rfl (.inl rfl) (by decide) rfl ?_; clear HF; intro _ HF
      refine sl_op HF rfl rfl (by decide) ?_; intro K hK; have e50 := HF.see 50 rfl; go_wp2_with fail; clear e50 HF; intro _ HF
      refine sl_op HF rfl rfl (by decide) ?_; intro K hK; have e51 := HF.see 51 rfl; go_wp2_with fail; clear e51 HF; intro _ HF
      refine sl_move HF rfl rfl (.inl rfl) (by decide) rfl ?_; clear HF; intro _ HF
      refine sl_skip HF rfl rfl rfl rfl (by decide) ?_; clear HF; intro _ HF
      refine sl_skip HF rfl rfl rfl rfl (by decide) ?_; clear HF; intro _ HF
      refine sl_skip HF rfl rfl rfl rfl (by decide) ?_; clear HF; intro _ HF
      refine sl_skip HF rfl rfl rfl rfl (by decide) ?_; clear HF; intro _ HF
      refine sl_op HF rfl rfl (by decide) ?_; intro K hK; have e53 := HF.see 53 rfl; have e57 := HF.see 57 rfl; go_wp2_with fail; clear e53 e57 HF; intro _ HF
      refine sl_move HF rfl rfl (.inl rfl) (by decide) rfl ?_; clear HF; intro _ HF
      refine sl_want HF rfl rfl rfl rfl (by decide) ?_; intro K hK; have e1 := HF.see 1 rfl; go_wp2_with fail; clear e1 HF; intro _ HF
      refine sl_want HF rfl rfl rfl rfl (by decide) ?_; intro K hK; have e60 := HF.see 60 rfl; go_wp2_with fail; clear e60 HF; intro _ HF
      refine sl_want HF rfl rfl rfl rfl (by decide) ?_; intro K hK; have e61 := HF.see 61 rfl; go_wp2_with fail; clear e61 HF; intro _ HF
      refine sl_want HF rfl rfl rfl rfl (by decide) ?_; intro K hK; have e62 := HF.see 62 rfl; go_wp2_with fail; clear e62 HF; intro _ HF
      refine sl_want HF rfl rfl rfl rfl (by decide) ?_; intro K hK; have e2 := HF.see 2 rfl; go_wp2_with fail; clear e2 HF; intro _ HF
      refine sl_want HF rfl rfl rfl rfl (by decide) ?_; intro K hK; have e64 := HF.see 64 rfl; go_wp2_with fail; clear e64 HF; intro _ HF
      refine sl_want HF rfl rfl rfl rfl (by decide) ?_; intro K hK; have e65 := HF.see 65 rfl; go_wp2_with fail; clear e65 HF; intro _ HF
      refine sl_want HF rfl rfl rfl rfl (by decide) ?_; intro K hK; have e63 := HF.see 63 rfl; have e66 := HF.see 66 rfl; go_wp2_with fail; clear e63 e66 HF; intro _ HF
      refine sl_op HF rfl rfl (by decide) ?_; intro K hK; have e59 := HF.see 59 rfl; have e67 := HF.see 67 rfl; go_wp2_with fail; clear e59 e67 HF; intro _ HF
      refine sl_nil (wp_cond_false (HF.at 68 rfl) (wp_skip (sl_then ?_)))
      have HF2 := HF.keep [1, 2]
      simp only [pick, look] at HF2
      exact HRE.out ⟨fun h => absurd h HAR.out, fun _ => by trivial⟩ _ HF2
    · have hse : (str (t0 :: cl)).toList = t0 :: cl := cstr_toList _
      refine sl_move HF rfl rfl (.inl rfl) (by decide) rfl ?_; clear HF; intro _ HF
      refine sl_op HF rfl rfl (by decide) ?_; intro K hK; have e50 := HF.see 50 rfl; go_wp2_with fail; clear e50 HF; intro _ HF
      refine sl_op HF rfl rfl (by decide) ?_; intro K hK; have e51 := HF.see 51 rfl; go_wp2_with fail; clear e51 HF; intro _ HF
      refine sl_move HF rfl rfl (.inl rfl) (by decide) rfl ?_; clear HF; intro _ HF
      refine sl_skip HF rfl rfl rfl rfl (by decide) ?_; clear HF; intro _ HF
      refine sl_skip HF rfl rfl rfl rfl (by decide) ?_; clear HF; intro _ HF
      refine sl_skip HF rfl rfl rfl rfl (by decide) ?_; clear HF; intro _ HF
      refine sl_skip HF rfl rfl rfl rfl (by decide) ?_; clear HF; intro _ HF
      refine sl_op HF rfl rfl (by decide) ?_; intro K hK; have e53 := HF.see 53 rfl; have e57 := HF.see 57 rfl; go_wp2_with fail; clear e53 e57 HF; intro _ HF
      refine sl_move HF rfl rfl (.inl rfl) (by decide) rfl ?_; clear HF; intro _ HF
      refine sl_want HF rfl rfl rfl rfl (by decide) ?_; intro K hK; have e1 := HF.see 1 rfl; go_wp2_with fail; clear e1 HF; intro _ HF
      refine sl_want HF rfl rfl rfl rfl (by decide) ?_; intro K hK; have e60 := HF.see 60 rfl; go_wp2_with fail; clear e60 HF; intro _ HF
      refine sl_want HF rfl rfl rfl rfl (by decide) ?_; intro K hK; have e61 := HF.see 61 rfl; go_wp2_with fail; clear e61 HF; intro _ HF
      refine sl_want HF rfl rfl rfl rfl (by decide) ?_; intro K hK; have e62 := HF.see 62 rfl; go_wp2_with fail; clear e62 HF; intro _ HF
      refine sl_want HF rfl rfl rfl rfl (by decide) ?_; intro K hK; have e2 := HF.see 2 rfl; go_wp2_with fail; clear e2 HF; intro _ HF
      refine sl_want HF rfl rfl rfl rfl (by decide) ?_; intro K hK; have e64 := HF.see 64 rfl; go_wp2_with fail; clear e64 HF; intro _ HF
      refine sl_want HF rfl rfl rfl rfl (by decide) ?_; intro K hK; have e65 := HF.see 65 rfl; go_wp2_with fail; clear e65 HF; intro _ HF
      refine sl_want HF rfl rfl rfl rfl (by decide) ?_; intro K hK; have e63 := HF.see 63 rfl; have e66 := HF.see 66 rfl; go_wp2_with fail; clear e63 e66 HF; intro _ HF
      refine sl_op HF rfl rfl (by decide) ?_; intro K hK; have e59 := HF.see 59 rfl; have e67 := HF.see 67 rfl; go_wp2_with fail; clear e59 e67 HF; intro _ HF
      refine sl_nil (wp_cond_true (HF.at 68 rfl) (wp_seq (wp_region_lit ?_)))
      refine sl_const HF rfl rfl (.inr rfl) (by decide) ?_; clear HF; intro _ HF
      have HF2 := HF.keep [4]
      simp only [pick, look] at HF2
      exact sl_nil (wp_ret (HBAD.out _ _ HF2 (Mod.refl _ _)))

set_option maxHeartbeats 1600000 in
set_option maxRecDepth 100000 in
theorem rCodeRight_any {c : CodeT} {cs : List Value} (w : World) (h : CodeC w c cs) (ht : TxtP c) :
    Calls Tryd.prog 7 #[.agg cs.toArray] w fun e w' => RRt c [] w e w' := by
  obtain ⟨v, hv, hf⟩ := h.view
  have hm1 := (Mod.refl Nil w).alloc (.cells (codeArr c v) 26)
  have hb1 : Blk (w.alloc (.cells (codeArr c v) 26)) w.heap.size 26 (codeArr c v) := Blk.new _ _ _
  have hcs : cs = (codeArr c v).toList := by rw [← hv]
  have HR := Lib.hid (rRight_any _ c (Nat.le_refl _) v [] [] none 0 0 _ (fun w' h' => hf w' (hm1.trans h')) (hcs ▸ h.keep hm1) (AroF.empty _) (by decide) ht)
  have HM := Lib.hid hm1
  rw [hv]
  obtain ⟨k0, k1, k2, k3, k4, k5⟩ := code_boxed hb1
  clear hb1 hm1 hf h hv hcs
  unfold codeArr at *
  go_enter Tryd.func7, Tryd.ntmps7
  go_wp2_with fail
  refine HR.out.mono ?_
  rintro e w2 ⟨r, rfl, hr, hm⟩
  have HM2 := Lib.hid (HM.out.trans hm)
  have HRR := Lib.hid hr
  clear hm hr
  go_wp2_with fail
  go_ret
  exact ⟨r, rfl, HRR.out, HM2.out⟩
end Go.Proofs.YtefloadjolpgbaaDoor
