/- Parts of the proof of CodeRunsUpto, joined: CodQ. -/
import Derived.Test.YtefloadjolpgbaaDoorCodeRunsUptoj5
namespace Go.Proofs.YtefloadjolpgbaaDoor
open Go.RowKit

/-- Same of a block, in whatever world. -/
def SameOk (f : FuncId) (x : CodeT) : Prop := ∀ (y : CodeT) (w : World) (cx cy : List Value), CodeC w x cx → CodeC w y cy → Calls Tryd.prog f #[.agg cx.toArray, .agg cy.toArray] w fun e w' => e = .returned (.bool (codeEq x y)) ∧ Mod Nil w w'

def RsbI (w1 : World) (a b : CodeT) (ga gb : Nat) (ac : Act) (w : World) : Prop :=
  ∃ k : Nat, Sl 109 [(2, .pointer (some ⟨ga, 0, none⟩)), (3, .pointer (some ⟨gb, 0, none⟩)), (7, .int .i64 (k : Nat))] ac ∧ k ≤ a.blocks.length ∧ a.blocks.take k = b.blocks.take k ∧ Mod Nil w1 w

set_option maxHeartbeats 6400000 in
set_option maxRecDepth 100000 in
/-- The loop over the blocks. -/
theorem rs_blocks {Q : Exit → Act → World → Prop} {a b : CodeT} {va vb : CodeV} {ga gb : Nat} {w1 w : World} {ac : Act}
    (HF : Sl 109 [(2, .pointer (some ⟨ga, 0, none⟩)), (3, .pointer (some ⟨gb, 0, none⟩))] ac) (HA : Hid (Blk w1 ga 26 (codeArr a va))) (HB : Hid (Blk w1 gb 26 (codeArr b vb))) (HFA : Hid (∀ w', Mod Nil w1 w' → CodeF w' a va)) (HFB : Hid (∀ w', Mod Nil w1 w' → CodeF w' b vb))
    (IH : Hid (∀ (i : Nat) (x : CodeT), a.blocks[i]? = some x → SameOk 11 x)) (hlen : a.blocks.length = b.blocks.length) (hm : Mod Nil w1 w)
    (hQ0 : a.blocks ≠ b.blocks → ∀ ac' w', Sl 109 [(4, .bool false)] ac' → Mod Nil w1 w' → Q .ret ac' w')
    (hQ1 : a.blocks = b.blocks → ∀ ac' w', Sl 109 [(2, .pointer (some ⟨ga, 0, none⟩)), (3, .pointer (some ⟨gb, 0, none⟩))] ac' → Mod Nil w1 w' → Q .normal ac' w') :
    (part [1, 1, 1, 1, 0] rsBody).wp Tryd.prog Q ac w := by
  have HQ0 := Lib.hid hQ0
  have HQ1 := Lib.hid hQ1
  have HLEN := Lib.hid hlen
  have HM := Lib.hid hm
  clear hQ0 hQ1 hlen hm
  obtain ⟨n, hn⟩ : ∃ n, n = a.blocks.length := ⟨_, rfl⟩
  have HN := Lib.hid hn
  have hnb : n ≤ 9223372036854775807 := by
    have := (HFA.out w1 (Mod.refl _ _)).n4
    have := (HFA.out w1 (Mod.refl _ _)).m4
    omega
  clear hn
  conv => arg 2; whnf
  refine wp_seq (wp_region_lit ?_)
  refine sl_const HF rfl rfl (.inr rfl) (by decide) ?_; clear HF; intro _ HF
  refine sl_nil (wp_block (wp_loop (RsbI w1 a b ga gb) (fun ac _ => n - (intOf (ac.eval (.tmp 7))).toNat) ?_ ?_))
  · exact ⟨0, HF.keep [2, 3, 7], Nat.zero_le _, rfl, HM.out⟩
  · clear HF
    rintro ac2 w2 ⟨k, HF, hk, heq, hmod⟩
    have hmu : n - (intOf ((ac2.tmps[7]?).getD undef)).toNat = n - k := by rw [HF.see 7 rfl]; simp [intOf]
    have HMU := Lib.hid hmu
    have HEQ := Lib.hid heq
    have HMOD := Lib.hid hmod
    rw [← HN.out] at hk
    have ka := (code_boxed (HA.out.keep hmod id)).2.2.2.2.1
    have kb := (code_boxed (HB.out.keep hmod id)).2.2.2.2.1
    rw [← HLEN.out, ← HN.out] at kb
    rw [← HN.out] at ka
    have hcap : n ≤ va.c4 := by have := (HFA.out w1 (Mod.refl _ _)).n4; rw [← HN.out] at this; exact this
    have hcapb : n ≤ vb.c4 := by have := (HFB.out w1 (Mod.refl _ _)).n4; rw [← HLEN.out, ← HN.out] at this; exact this
    clear hmu heq hmod
    by_cases hlt : k < n
    · have hlt' : decide ((k : Int) < n) = true := by simp; omega
      obtain ⟨x, hx⟩ : ∃ x, a.blocks[k]? = some x := ⟨_, List.getElem?_eq_getElem (by rw [← HN.out]; exact hlt)⟩
      obtain ⟨y, hy⟩ : ∃ y, b.blocks[k]? = some y := ⟨_, List.getElem?_eq_getElem (by rw [← HLEN.out, ← HN.out]; exact hlt)⟩
      obtain ⟨ad, a0, a1, a2, a3, a4, a5, hAd, hab, hxc, q0, q1, q2, q3, q4, q5⟩ := (HFA.out w2 HMOD.out).blk k x hx
      obtain ⟨bd, b0, b1, b2, b3, b4, b5, hBd, hbb, hyc, p0, p1, p2, p3, p4, p5⟩ := (HFB.out w2 HMOD.out).blk k y hy
      rw [hAd] at ka
      rw [hBd] at kb
      have HX := Lib.hid hx
      have HY := Lib.hid hy
      have HC := Lib.hid (IH.out k x hx y w2.drew _ _ (hxc.keep ((Mod.refl _ _).drew)) (hyc.keep ((Mod.refl _ _).drew)))
      have HDIFF := Lib.hid (show x ≠ y → a.blocks ≠ b.blocks from fun h he => by
        rw [he] at hx
        rw [hx] at hy
        cases hy
        exact h rfl)
      clear hx hy hAd hBd hxc hyc
      refine wp_seq (wp_seq (wp_region_lit ?_))
      refine sl_move HF rfl rfl (.inl rfl) (by decide) rfl ?_; clear HF; intro _ HF
      refine sl_op HF rfl rfl (by decide) ?_; intro K hK; have e2 := HF.see 2 rfl; go_wp2_with fail; clear e2 HF; intro _ HF
      refine sl_op HF rfl rfl (by decide) ?_; intro K hK; have e91 := HF.see 91 rfl; go_wp2_with fail; clear e91 HF; intro _ HF
      refine sl_op HF rfl rfl (by decide) ?_; intro K hK; have e92 := HF.see 92 rfl; go_wp2_with fail; clear e92 HF; intro _ HF
      refine sl_op HF rfl rfl (by decide) ?_; intro K hK; have e90 := HF.see 90 rfl; have e93 := HF.see 93 rfl; go_wp2_with fail; clear e90 e93 HF; intro _ HF
      refine sl_nil (wp_cond_true (HF.at 94 rfl) (wp_skip (sl_then (wp_seq (wp_block (wp_seq ?_))))))
      apply sl_flow5 (N := 1) [some 97, some 98, some 99, some 100, some 101, some 102, some 103, some 104, some 105, some 106, some 107, some 108] [.quiet 0 0, .quiet 0 0, .quiet 0 0, .quiet 0 0, .quiet 0 0, .quiet 0 0, .quiet 0 0, .quiet 0 0, .quiet 0 0, .quiet 0 0, .writes 0, .quiet 1 1] (PhCl w2.drew (.bool (codeEq x y))) [_, _, _, _, _, _, _, _, _, _, (fun h => h 0), _] HF
      case hm => kernel_rfl
      case hok => kernel_rfl
      case hfl => rfl
      case h0 => exact (fun _ => ⟨fun _ => rfl, fun h => absurd h (by decide)⟩)
      case hobs =>
        apply And.intro
        · apply ob_quiet
          case hg => rfl
          case hop =>
            intro ax wx h k hlo hhi hP hk K hK
            have e2 := hk.see 2 rfl rfl
            clear hk
            obtain rfl : wx = w2.drew := hP.s0 (by omega)
            go_wp2_with fail
            all_goals first | exact hP | rfl
          case hst => exact fun h h' e => rfl
        apply And.intro
        · apply ob_quiet
          case hg => rfl
          case hop =>
            intro ax wx h k hlo hhi hP hk K hK
            have e97 := hk.see 97 rfl rfl
            clear hk
            obtain rfl : wx = w2.drew := hP.s0 (by omega)
            go_wp2_with fail
            all_goals first | exact hP | rfl
          case hst => exact fun h h' e => rfl
        apply And.intro
        · apply ob_quiet
          case hg => rfl
          case hop =>
            intro ax wx h k hlo hhi hP hk K hK
            have e7 := hk.see 7 rfl rfl
            clear hk
            go_wp2_with fail
            all_goals first | exact hP | rfl
          case hst => exact fun h h' e => rfl
        apply And.intro
        · apply ob_quiet
          case hg => rfl
          case hop =>
            intro ax wx h k hlo hhi hP hk K hK
            have e98 := hk.see 98 rfl rfl
            have e99 := hk.see 99 rfl rfl
            clear hk
            obtain rfl : wx = w2.drew := hP.s0 (by omega)
            go_wp2_with fail
            all_goals first | exact hP | rfl
          case hst => exact fun h h' e => rfl
        apply And.intro
        · apply ob_quiet
          case hg => rfl
          case hop =>
            intro ax wx h k hlo hhi hP hk K hK
            have e100 := hk.see 100 rfl rfl
            clear hk
            obtain rfl : wx = w2.drew := hP.s0 (by omega)
            go_wp2_with fail
            all_goals first | exact hP | rfl
          case hst => exact fun h h' e => rfl
        apply And.intro
        · apply ob_quiet
          case hg => rfl
          case hop =>
            intro ax wx h k hlo hhi hP hk K hK
            have e3 := hk.see 3 rfl rfl
            clear hk
            obtain rfl : wx = w2.drew := hP.s0 (by omega)
            go_wp2_with fail
            all_goals first | exact hP | rfl
          case hst => exact fun h h' e => rfl
        apply And.intro
        · apply ob_quiet
          case hg => rfl
          case hop =>
            intro ax wx h k hlo hhi hP hk K hK
            have e102 := hk.see 102 rfl rfl
            clear hk
            obtain rfl : wx = w2.drew := hP.s0 (by omega)
            go_wp2_with fail
            all_goals first | exact hP | rfl
          case hst => exact fun h h' e => rfl
        apply And.intro
        · apply ob_quiet
          case hg => rfl
          case hop =>
            intro ax wx h k hlo hhi hP hk K hK
            have e7 := hk.see 7 rfl rfl
            clear hk
            go_wp2_with fail
            all_goals first | exact hP | rfl
          case hst => exact fun h h' e => rfl
        apply And.intro
        · apply ob_quiet
          case hg => rfl
          case hop =>
            intro ax wx h k hlo hhi hP hk K hK
            have e103 := hk.see 103 rfl rfl
            have e104 := hk.see 104 rfl rfl
            clear hk
            obtain rfl : wx = w2.drew := hP.s0 (by omega)
            go_wp2_with fail
            all_goals first | exact hP | rfl
          case hst => exact fun h h' e => rfl
        apply And.intro
        · apply ob_quiet
          case hg => rfl
          case hop =>
            intro ax wx h k hlo hhi hP hk K hK
            have e105 := hk.see 105 rfl rfl
            clear hk
            obtain rfl : wx = w2.drew := hP.s0 (by omega)
            go_wp2_with fail
            all_goals first | exact hP | rfl
          case hst => exact fun h h' e => rfl
        refine And.intro (ob_writes rfl ?op) ?_
        case op =>
          intro ax wx h hP hk K hK
          have e101 := hk.see 101 rfl rfl
          have e106 := hk.see 106 rfl rfl
          clear hk
          obtain rfl : wx = w2.drew := hP.s0 rfl
          clear hP
          go_wp2_with fail
          refine HC.out.mono ?_
          rintro e w' ⟨rfl, hm'⟩
          exact hK _ _ ⟨fun h => absurd h (by decide), fun _ => ⟨hm', upd_same _ _ _⟩⟩
        apply And.intro
        · apply ob_quiet
          case hg => rfl
          case hop =>
            intro ax wx h k hlo hhi hP hk K hK
            have e107 := hk.see 107 rfl rfl
            try dsimp only at e107
            clear hk
            rw [(hP.s1 (by omega)).2] at e107
            go_wp2_with fail
            all_goals first | exact hP | rfl
          case hst => exact fun h h' e => by first | rfl | simp only [e 0 (by decide)]
        exact trivial
      intro w' a' h hP HF
      have hm3 := (hP.s1 rfl).1
      have HM3 := Lib.hid ((HMOD.out.trans ((Mod.refl Nil w2).drew)).trans hm3)
      clear hm3 hP
      by_cases hxy : x = y
      · rw [codeEq_true hxy] at HF
        have HXY := Lib.hid hxy
        clear hxy
        refine sl_then (wp_cond_false (HF.at 108 rfl) (wp_skip (sl_blk (wp_region_lit ?_))))
        refine sl_move HF rfl rfl (.inl rfl) (by decide) rfl ?_; clear HF; intro _ HF
        refine sl_op HF rfl rfl (by decide) ?_; intro K hK; have e95 := HF.see 95 rfl; go_wp2_with fail; clear e95 HF; intro _ HF
        refine sl_move HF rfl rfl (.inr rfl) (by decide) rfl ?_; clear HF; intro _ HF
        refine wpList_nil ?_
        refine ⟨⟨k + 1, ?_, by rw [← HN.out]; exact hlt, ?_, HM3.out⟩, ?_⟩
        · have := HF.keep [2, 3, 7]
          rw [show ((k + 1 : Nat) : Int) = (k : Int) + 1 by omega]
          exact this
        · rw [List.take_add_one, List.take_add_one, HEQ.out, HX.out, HY.out, HXY.out]
        · have e9 := HF.see 7 rfl
          try simp only [Act.eval_tmp]
          rw [HMU.out, e9]
          simp only [intOf]
          omega
      · rw [codeEq_false hxy] at HF
        have HR := Lib.hid (HDIFF.out hxy)
        clear hxy
        refine sl_then (wp_cond_true (HF.at 108 rfl) (wp_seq (wp_region_lit ?_)))
        refine sl_const HF rfl rfl (.inr rfl) (by decide) ?_; clear HF; intro _ HF
        refine sl_nil (wp_ret ?_)
        try dsimp only [Exit.then, Exit.inBlock]
        exact HQ0.out HR.out _ _ (HF.keep [4]) HM3.out
    · have hge : decide ((k : Int) < n) = false := by simp; omega
      have HR := Lib.hid (show a.blocks = b.blocks by
        have h1 := HEQ.out
        rwa [List.take_of_length_le (by rw [← HN.out]; omega), List.take_of_length_le (by rw [← HLEN.out, ← HN.out]; omega)] at h1)
      refine wp_seq (wp_seq (wp_region_lit ?_))
      refine sl_move HF rfl rfl (.inl rfl) (by decide) rfl ?_; clear HF; intro _ HF
      refine sl_op HF rfl rfl (by decide) ?_; intro K hK; have e2 := HF.see 2 rfl; go_wp2_with fail; clear e2 HF; intro _ HF
      refine sl_op HF rfl rfl (by decide) ?_; intro K hK; have e91 := HF.see 91 rfl; go_wp2_with fail; clear e91 HF; intro _ HF
      refine sl_op HF rfl rfl (by decide) ?_; intro K hK; have e92 := HF.see 92 rfl; go_wp2_with fail; clear e92 HF; intro _ HF
      refine sl_op HF rfl rfl (by decide) ?_; intro K hK; have e90 := HF.see 90 rfl; have e93 := HF.see 93 rfl; go_wp2_with fail; clear e90 e93 HF; intro _ HF
      refine sl_nil (wp_cond_false (HF.at 94 rfl) (wp_exit ?_))
      dsimp only [Exit.then]
      exact sl_exit (HQ1.out HR.out _ _ (HF.keep [2, 3]) HMOD.out)

set_option maxHeartbeats 12800000 in
set_option maxRecDepth 100000 in
theorem rcSame_any : ∀ (m : Nat) (a : CodeT), SizeOf.sizeOf a ≤ m → SameOk 11 a := by
  intro m
  induction m with
  | zero => intro a ha; obtain ⟨_, _, _, _, _, _⟩ := a; simp at ha
  | succ m ih =>
    intro a hsz b w ca cb hca hcb
    obtain ⟨va, hva, hfa⟩ := hca.view
    obtain ⟨vb, hvb, hfb⟩ := hcb.view
    rw [hva, hvb]
    have IH := Lib.hid (show ∀ (i : Nat) (x : CodeT), a.blocks[i]? = some x → SameOk 11 x from fun i x hx => ih x (Nat.le_of_lt_succ (Nat.lt_of_lt_of_le (block_lt hx) hsz)))
    have hbA : Blk ((w.alloc (.cells (codeArr a va) 26)).alloc (.cells (codeArr b vb) 26)) w.heap.size 26 (codeArr a va) := (Blk.new _ _ _).alloc _
    have hbB : Blk ((w.alloc (.cells (codeArr a va) 26)).alloc (.cells (codeArr b vb) 26)) (w.heap.size + 1) 26 (codeArr b vb) := by
      have := Blk.new (w.alloc (.cells (codeArr a va) 26)) 26 (codeArr b vb)
      simpa using this
    have hm0 := ((Mod.refl Nil w).alloc (.cells (codeArr a va) 26)).alloc (.cells (codeArr b vb) 26)
    have HFA0 := Lib.hid hfa
    have HFB0 := Lib.hid hfb
    clear ih hsz hca hcb hva hvb hfa hfb
    refine sl_enter (n := 109) (fn := Tryd.f11) (c := rsBody) Tryd.func11 rfl rfl (by simp) fun ac HF => ?_
    conv => arg 2; whnf
    unfold codeArr at hbA hbB hm0 HF
    refine wp_seq (wp_region_lit ?_)
    refine sl_op HF rfl rfl (by decide) ?_; intro K hK; have e0 := HF.see 0 rfl; go_wp2_with fail; clear e0 HF; intro _ HF
    refine sl_op HF rfl rfl (by decide) ?_; intro K hK; have e1 := HF.see 1 rfl; go_wp2_with fail; clear e1 HF; intro _ HF
    refine sl_const HF rfl rfl (.inr rfl) (by decide) ?_; clear HF; intro _ HF
    generalize hW : (w.alloc (.cells #[.int .i64 a.args, .int .i64 a.vars, .slice va.A2 a.lits.length va.c2, .slice va.A3 a.ins.length va.c3, .slice va.A4 a.blocks.length va.c4, .string (str a.cls)] 26)).alloc (.cells #[.int .i64 b.args, .int .i64 b.vars, .slice vb.A2 b.lits.length vb.c2, .slice vb.A3 b.ins.length vb.c3, .slice vb.A4 b.blocks.length vb.c4, .string (str b.cls)] 26) = w1 at hbA hbB hm0 ⊢
    generalize w.heap.size + 1 = gb at hbB HF
    generalize w.heap.size = ga at hbA HF
    have HA := Lib.hid (show Blk w1 ga 26 (codeArr a va) from hbA)
    have HB := Lib.hid (show Blk w1 gb 26 (codeArr b vb) from hbB)
    have HM0 := Lib.hid hm0
    have HFA := Lib.hid (show ∀ w', Mod Nil w1 w' → CodeF w' a va from fun w' h => HFA0.out w' (HM0.out.trans h))
    have HFB := Lib.hid (show ∀ w', Mod Nil w1 w' → CodeF w' b vb from fun w' h => HFB0.out w' (HM0.out.trans h))
    obtain ⟨k0, k1, k2, k3, k4, k5⟩ := code_cells hbA
    obtain ⟨l0, l1, l2, l3, l4, l5⟩ := code_cells hbB
    clear hbA hbB hm0 hW HFA0 HFB0
    refine sl_nil (wp_seq (wp_seq (wp_region_lit ?_)))
    by_cases e0 : ¬ (a.args = b.args)
    · have g1 : (a.args == b.args) = false := by simp [e0]
      have g2 : (a.args != b.args) = true := by rw [bne, g1]; rfl
      have HR := Lib.hid (codeEq_false (a := a) (b := b) (fun h => e0 (by rw [h])))
      clear e0
      refine sl_op HF rfl rfl (by decide) ?_; intro K hK; have e2 := HF.see 2 rfl; go_wp2_with fail; clear e2 HF; intro _ HF
      refine sl_op HF rfl rfl (by decide) ?_; intro K hK; have e8 := HF.see 8 rfl; go_wp2_with fail; clear e8 HF; intro _ HF
      refine sl_op HF rfl rfl (by decide) ?_; intro K hK; have e3 := HF.see 3 rfl; go_wp2_with fail; clear e3 HF; intro _ HF
      refine sl_op HF rfl rfl (by decide) ?_; intro K hK; have e10 := HF.see 10 rfl; go_wp2_with fail; clear e10 HF; intro _ HF
      refine sl_op HF rfl rfl (by decide) ?_; intro K hK; have e9 := HF.see 9 rfl; have e11 := HF.see 11 rfl; go_wp2_with fail; clear e9 e11 HF; intro _ HF
      refine sl_move HF rfl rfl (.inl rfl) (by decide) rfl ?_; clear HF; intro _ HF
      refine sl_skip HF rfl rfl rfl rfl (by decide) ?_; clear HF; intro _ HF
      refine sl_skip HF rfl rfl rfl rfl (by decide) ?_; clear HF; intro _ HF
      refine sl_skip HF rfl rfl rfl rfl (by decide) ?_; clear HF; intro _ HF
      refine sl_skip HF rfl rfl rfl rfl (by decide) ?_; clear HF; intro _ HF
      refine sl_skip HF rfl rfl rfl rfl (by decide) ?_; clear HF; intro _ HF
      refine sl_op HF rfl rfl (by decide) ?_; intro K hK; have e13 := HF.see 13 rfl; have e18 := HF.see 18 rfl; go_wp2_with fail; clear e13 e18 HF; intro _ HF
      refine sl_move HF rfl rfl (.inl rfl) (by decide) rfl ?_; clear HF; intro _ HF
      refine sl_skip HF rfl rfl rfl rfl (by decide) ?_; clear HF; intro _ HF
      refine sl_skip HF rfl rfl rfl rfl (by decide) ?_; clear HF; intro _ HF
      refine sl_skip HF rfl rfl rfl rfl (by decide) ?_; clear HF; intro _ HF
      refine sl_skip HF rfl rfl rfl rfl (by decide) ?_; clear HF; intro _ HF
      refine sl_skip HF rfl rfl rfl rfl (by decide) ?_; clear HF; intro _ HF
      refine sl_op HF rfl rfl (by decide) ?_; intro K hK; have e20 := HF.see 20 rfl; have e25 := HF.see 25 rfl; go_wp2_with fail; clear e20 e25 HF; intro _ HF
      refine sl_move HF rfl rfl (.inl rfl) (by decide) rfl ?_; clear HF; intro _ HF
      refine sl_skip HF rfl rfl rfl rfl (by decide) ?_; clear HF; intro _ HF
      refine sl_skip HF rfl rfl rfl rfl (by decide) ?_; clear HF; intro _ HF
      refine sl_skip HF rfl rfl rfl rfl (by decide) ?_; clear HF; intro _ HF
      refine sl_skip HF rfl rfl rfl rfl (by decide) ?_; clear HF; intro _ HF
      refine sl_skip HF rfl rfl rfl rfl (by decide) ?_; clear HF; intro _ HF
      refine sl_skip HF rfl rfl rfl rfl (by decide) ?_; clear HF; intro _ HF
      refine sl_skip HF rfl rfl rfl rfl (by decide) ?_; clear HF; intro _ HF
      refine sl_op HF rfl rfl (by decide) ?_; intro K hK; have e27 := HF.see 27 rfl; have e34 := HF.see 34 rfl; go_wp2_with fail; clear e27 e34 HF; intro _ HF
      refine sl_move HF rfl rfl (.inl rfl) (by decide) rfl ?_; clear HF; intro _ HF
      refine sl_skip HF rfl rfl rfl rfl (by decide) ?_; clear HF; intro _ HF
      refine sl_skip HF rfl rfl rfl rfl (by decide) ?_; clear HF; intro _ HF
      refine sl_skip HF rfl rfl rfl rfl (by decide) ?_; clear HF; intro _ HF
      refine sl_skip HF rfl rfl rfl rfl (by decide) ?_; clear HF; intro _ HF
      refine sl_skip HF rfl rfl rfl rfl (by decide) ?_; clear HF; intro _ HF
      refine sl_skip HF rfl rfl rfl rfl (by decide) ?_; clear HF; intro _ HF
      refine sl_skip HF rfl rfl rfl rfl (by decide) ?_; clear HF; intro _ HF
      refine sl_op HF rfl rfl (by decide) ?_; intro K hK; have e36 := HF.see 36 rfl; have e43 := HF.see 43 rfl; go_wp2_with fail; clear e36 e43 HF; intro _ HF
      refine sl_move HF rfl rfl (.inl rfl) (by decide) rfl ?_; clear HF; intro _ HF
      refine sl_skip HF rfl rfl rfl rfl (by decide) ?_; clear HF; intro _ HF
      refine sl_skip HF rfl rfl rfl rfl (by decide) ?_; clear HF; intro _ HF
      refine sl_skip HF rfl rfl rfl rfl (by decide) ?_; clear HF; intro _ HF
      refine sl_skip HF rfl rfl rfl rfl (by decide) ?_; clear HF; intro _ HF
      refine sl_skip HF rfl rfl rfl rfl (by decide) ?_; clear HF; intro _ HF
      refine sl_skip HF rfl rfl rfl rfl (by decide) ?_; clear HF; intro _ HF
      refine sl_skip HF rfl rfl rfl rfl (by decide) ?_; clear HF; intro _ HF
      refine sl_op HF rfl rfl (by decide) ?_; intro K hK; have e45 := HF.see 45 rfl; have e52 := HF.see 52 rfl; go_wp2_with fail; clear e45 e52 HF; intro _ HF
      refine sl_nil (wp_cond_true (HF.at 53 rfl) (wp_seq (wp_region_lit ?_)))
      refine sl_const HF rfl rfl (.inr rfl) (by decide) ?_; clear HF; intro _ HF
      refine sl_nil (wp_ret ?_)
      try dsimp only [Exit.then]
      exact sl_ret1 HF rfl rfl ⟨by rw [HR.out], HM0.out⟩
    replace e0 := Decidable.not_not.1 e0
    rw [← e0] at l0
    have E0 := Lib.hid e0
    clear e0
    by_cases e1 : ¬ (a.vars = b.vars)
    · have g1 : (a.vars == b.vars) = false := by simp [e1]
      have g2 : (a.vars != b.vars) = true := by rw [bne, g1]; rfl
      have HR := Lib.hid (codeEq_false (a := a) (b := b) (fun h => e1 (by rw [h])))
      clear e1
      refine sl_op HF rfl rfl (by decide) ?_; intro K hK; have e2 := HF.see 2 rfl; go_wp2_with fail; clear e2 HF; intro _ HF
      refine sl_op HF rfl rfl (by decide) ?_; intro K hK; have e8 := HF.see 8 rfl; go_wp2_with fail; clear e8 HF; intro _ HF
      refine sl_op HF rfl rfl (by decide) ?_; intro K hK; have e3 := HF.see 3 rfl; go_wp2_with fail; clear e3 HF; intro _ HF
      refine sl_op HF rfl rfl (by decide) ?_; intro K hK; have e10 := HF.see 10 rfl; go_wp2_with fail; clear e10 HF; intro _ HF
      refine sl_op HF rfl rfl (by decide) ?_; intro K hK; have e9 := HF.see 9 rfl; have e11 := HF.see 11 rfl; go_wp2_with fail; clear e9 e11 HF; intro _ HF
      refine sl_move HF rfl rfl (.inl rfl) (by decide) rfl ?_; clear HF; intro _ HF
      refine sl_want HF rfl rfl rfl rfl (by decide) ?_; intro K hK; have e2 := HF.see 2 rfl; go_wp2_with fail; clear e2 HF; intro _ HF
      refine sl_want HF rfl rfl rfl rfl (by decide) ?_; intro K hK; have e14 := HF.see 14 rfl; go_wp2_with fail; clear e14 HF; intro _ HF
      refine sl_want HF rfl rfl rfl rfl (by decide) ?_; intro K hK; have e3 := HF.see 3 rfl; go_wp2_with fail; clear e3 HF; intro _ HF
      refine sl_want HF rfl rfl rfl rfl (by decide) ?_; intro K hK; have e16 := HF.see 16 rfl; go_wp2_with fail; clear e16 HF; intro _ HF
      refine sl_want HF rfl rfl rfl rfl (by decide) ?_; intro K hK; have e15 := HF.see 15 rfl; have e17 := HF.see 17 rfl; go_wp2_with fail; clear e15 e17 HF; intro _ HF
      refine sl_op HF rfl rfl (by decide) ?_; intro K hK; have e13 := HF.see 13 rfl; have e18 := HF.see 18 rfl; go_wp2_with fail; clear e13 e18 HF; intro _ HF
      refine sl_move HF rfl rfl (.inl rfl) (by decide) rfl ?_; clear HF; intro _ HF
      refine sl_skip HF rfl rfl rfl rfl (by decide) ?_; clear HF; intro _ HF
      refine sl_skip HF rfl rfl rfl rfl (by decide) ?_; clear HF; intro _ HF
      refine sl_skip HF rfl rfl rfl rfl (by decide) ?_; clear HF; intro _ HF
      refine sl_skip HF rfl rfl rfl rfl (by decide) ?_; clear HF; intro _ HF
      refine sl_skip HF rfl rfl rfl rfl (by decide) ?_; clear HF; intro _ HF
      refine sl_op HF rfl rfl (by decide) ?_; intro K hK; have e20 := HF.see 20 rfl; have e25 := HF.see 25 rfl; go_wp2_with fail; clear e20 e25 HF; intro _ HF
      refine sl_move HF rfl rfl (.inl rfl) (by decide) rfl ?_; clear HF; intro _ HF
      refine sl_skip HF rfl rfl rfl rfl (by decide) ?_; clear HF; intro _ HF
      refine sl_skip HF rfl rfl rfl rfl (by decide) ?_; clear HF; intro _ HF
      refine sl_skip HF rfl rfl rfl rfl (by decide) ?_; clear HF; intro _ HF
      refine sl_skip HF rfl rfl rfl rfl (by decide) ?_; clear HF; intro _ HF
      refine sl_skip HF rfl rfl rfl rfl (by decide) ?_; clear HF; intro _ HF
      refine sl_skip HF rfl rfl rfl rfl (by decide) ?_; clear HF; intro _ HF
      refine sl_skip HF rfl rfl rfl rfl (by decide) ?_; clear HF; intro _ HF
      refine sl_op HF rfl rfl (by decide) ?_; intro K hK; have e27 := HF.see 27 rfl; have e34 := HF.see 34 rfl; go_wp2_with fail; clear e27 e34 HF; intro _ HF
      refine sl_move HF rfl rfl (.inl rfl) (by decide) rfl ?_; clear HF; intro _ HF
      refine sl_skip HF rfl rfl rfl rfl (by decide) ?_; clear HF; intro _ HF
      refine sl_skip HF rfl rfl rfl rfl (by decide) ?_; clear HF; intro _ HF
      refine sl_skip HF rfl rfl rfl rfl (by decide) ?_; clear HF; intro _ HF
      refine sl_skip HF rfl rfl rfl rfl (by decide) ?_; clear HF; intro _ HF
      refine sl_skip HF rfl rfl rfl rfl (by decide) ?_; clear HF; intro _ HF
      refine sl_skip HF rfl rfl rfl rfl (by decide) ?_; clear HF; intro _ HF
      refine sl_skip HF rfl rfl rfl rfl (by decide) ?_; clear HF; intro _ HF
      refine sl_op HF rfl rfl (by decide) ?_; intro K hK; have e36 := HF.see 36 rfl; have e43 := HF.see 43 rfl; go_wp2_with fail; clear e36 e43 HF; intro _ HF
      refine sl_move HF rfl rfl (.inl rfl) (by decide) rfl ?_; clear HF; intro _ HF
      refine sl_skip HF rfl rfl rfl rfl (by decide) ?_; clear HF; intro _ HF
      refine sl_skip HF rfl rfl rfl rfl (by decide) ?_; clear HF; intro _ HF
      refine sl_skip HF rfl rfl rfl rfl (by decide) ?_; clear HF; intro _ HF
      refine sl_skip HF rfl rfl rfl rfl (by decide) ?_; clear HF; intro _ HF
      refine sl_skip HF rfl rfl rfl rfl (by decide) ?_; clear HF; intro _ HF
      refine sl_skip HF rfl rfl rfl rfl (by decide) ?_; clear HF; intro _ HF
      refine sl_skip HF rfl rfl rfl rfl (by decide) ?_; clear HF; intro _ HF
      refine sl_op HF rfl rfl (by decide) ?_; intro K hK; have e45 := HF.see 45 rfl; have e52 := HF.see 52 rfl; go_wp2_with fail; clear e45 e52 HF; intro _ HF
      refine sl_nil (wp_cond_true (HF.at 53 rfl) (wp_seq (wp_region_lit ?_)))
      refine sl_const HF rfl rfl (.inr rfl) (by decide) ?_; clear HF; intro _ HF
      refine sl_nil (wp_ret ?_)
      try dsimp only [Exit.then]
      exact sl_ret1 HF rfl rfl ⟨by rw [HR.out], HM0.out⟩
    replace e1 := Decidable.not_not.1 e1
    rw [← e1] at l1
    have E1 := Lib.hid e1
    clear e1
    by_cases e5 : ¬ (a.cls = b.cls)
    · have g1 : ((str a.cls).toList == (str b.cls).toList) = false := by rw [cstr_toList, cstr_toList]; simp [e5]
      have g2 : ((str a.cls).toList != (str b.cls).toList) = true := by rw [bne, g1]; rfl
      have HR := Lib.hid (codeEq_false (a := a) (b := b) (fun h => e5 (by rw [h])))
      clear e5
      refine sl_op HF rfl rfl (by decide) ?_; intro K hK; have e2 := HF.see 2 rfl; go_wp2_with fail; clear e2 HF; intro _ HF
      refine sl_op HF rfl rfl (by decide) ?_; intro K hK; have e8 := HF.see 8 rfl; go_wp2_with fail; clear e8 HF; intro _ HF
      refine sl_op HF rfl rfl (by decide) ?_; intro K hK; have e3 := HF.see 3 rfl; go_wp2_with fail; clear e3 HF; intro _ HF
      refine sl_op HF rfl rfl (by decide) ?_; intro K hK; have e10 := HF.see 10 rfl; go_wp2_with fail; clear e10 HF; intro _ HF
      refine sl_op HF rfl rfl (by decide) ?_; intro K hK; have e9 := HF.see 9 rfl; have e11 := HF.see 11 rfl; go_wp2_with fail; clear e9 e11 HF; intro _ HF
      refine sl_move HF rfl rfl (.inl rfl) (by decide) rfl ?_; clear HF; intro _ HF
      refine sl_want HF rfl rfl rfl rfl (by decide) ?_; intro K hK; have e2 := HF.see 2 rfl; go_wp2_with fail; clear e2 HF; intro _ HF
      refine sl_want HF rfl rfl rfl rfl (by decide) ?_; intro K hK; have e14 := HF.see 14 rfl; go_wp2_with fail; clear e14 HF; intro _ HF
      refine sl_want HF rfl rfl rfl rfl (by decide) ?_; intro K hK; have e3 := HF.see 3 rfl; go_wp2_with fail; clear e3 HF; intro _ HF
      refine sl_want HF rfl rfl rfl rfl (by decide) ?_; intro K hK; have e16 := HF.see 16 rfl; go_wp2_with fail; clear e16 HF; intro _ HF
      refine sl_want HF rfl rfl rfl rfl (by decide) ?_; intro K hK; have e15 := HF.see 15 rfl; have e17 := HF.see 17 rfl; go_wp2_with fail; clear e15 e17 HF; intro _ HF
      refine sl_op HF rfl rfl (by decide) ?_; intro K hK; have e13 := HF.see 13 rfl; have e18 := HF.see 18 rfl; go_wp2_with fail; clear e13 e18 HF; intro _ HF
      refine sl_move HF rfl rfl (.inl rfl) (by decide) rfl ?_; clear HF; intro _ HF
      refine sl_want HF rfl rfl rfl rfl (by decide) ?_; intro K hK; have e2 := HF.see 2 rfl; go_wp2_with fail; clear e2 HF; intro _ HF
      refine sl_want HF rfl rfl rfl rfl (by decide) ?_; intro K hK; have e21 := HF.see 21 rfl; go_wp2_with fail; clear e21 HF; intro _ HF
      refine sl_want HF rfl rfl rfl rfl (by decide) ?_; intro K hK; have e3 := HF.see 3 rfl; go_wp2_with fail; clear e3 HF; intro _ HF
      refine sl_want HF rfl rfl rfl rfl (by decide) ?_; intro K hK; have e23 := HF.see 23 rfl; go_wp2_with fail; clear e23 HF; intro _ HF
      refine sl_want HF rfl rfl rfl rfl (by decide) ?_; intro K hK; have e22 := HF.see 22 rfl; have e24 := HF.see 24 rfl; go_wp2_with fail; clear e22 e24 HF; intro _ HF
      refine sl_op HF rfl rfl (by decide) ?_; intro K hK; have e20 := HF.see 20 rfl; have e25 := HF.see 25 rfl; go_wp2_with fail; clear e20 e25 HF; intro _ HF
      refine sl_move HF rfl rfl (.inl rfl) (by decide) rfl ?_; clear HF; intro _ HF
      refine sl_skip HF rfl rfl rfl rfl (by decide) ?_; clear HF; intro _ HF
      refine sl_skip HF rfl rfl rfl rfl (by decide) ?_; clear HF; intro _ HF
      refine sl_skip HF rfl rfl rfl rfl (by decide) ?_; clear HF; intro _ HF
      refine sl_skip HF rfl rfl rfl rfl (by decide) ?_; clear HF; intro _ HF
      refine sl_skip HF rfl rfl rfl rfl (by decide) ?_; clear HF; intro _ HF
      refine sl_skip HF rfl rfl rfl rfl (by decide) ?_; clear HF; intro _ HF
      refine sl_skip HF rfl rfl rfl rfl (by decide) ?_; clear HF; intro _ HF
      refine sl_op HF rfl rfl (by decide) ?_; intro K hK; have e27 := HF.see 27 rfl; have e34 := HF.see 34 rfl; go_wp2_with fail; clear e27 e34 HF; intro _ HF
      refine sl_move HF rfl rfl (.inl rfl) (by decide) rfl ?_; clear HF; intro _ HF
      refine sl_skip HF rfl rfl rfl rfl (by decide) ?_; clear HF; intro _ HF
      refine sl_skip HF rfl rfl rfl rfl (by decide) ?_; clear HF; intro _ HF
      refine sl_skip HF rfl rfl rfl rfl (by decide) ?_; clear HF; intro _ HF
      refine sl_skip HF rfl rfl rfl rfl (by decide) ?_; clear HF; intro _ HF
      refine sl_skip HF rfl rfl rfl rfl (by decide) ?_; clear HF; intro _ HF
      refine sl_skip HF rfl rfl rfl rfl (by decide) ?_; clear HF; intro _ HF
      refine sl_skip HF rfl rfl rfl rfl (by decide) ?_; clear HF; intro _ HF
      refine sl_op HF rfl rfl (by decide) ?_; intro K hK; have e36 := HF.see 36 rfl; have e43 := HF.see 43 rfl; go_wp2_with fail; clear e36 e43 HF; intro _ HF
      refine sl_move HF rfl rfl (.inl rfl) (by decide) rfl ?_; clear HF; intro _ HF
      refine sl_skip HF rfl rfl rfl rfl (by decide) ?_; clear HF; intro _ HF
      refine sl_skip HF rfl rfl rfl rfl (by decide) ?_; clear HF; intro _ HF
      refine sl_skip HF rfl rfl rfl rfl (by decide) ?_; clear HF; intro _ HF
      refine sl_skip HF rfl rfl rfl rfl (by decide) ?_; clear HF; intro _ HF
      refine sl_skip HF rfl rfl rfl rfl (by decide) ?_; clear HF; intro _ HF
      refine sl_skip HF rfl rfl rfl rfl (by decide) ?_; clear HF; intro _ HF
      refine sl_skip HF rfl rfl rfl rfl (by decide) ?_; clear HF; intro _ HF
      refine sl_op HF rfl rfl (by decide) ?_; intro K hK; have e45 := HF.see 45 rfl; have e52 := HF.see 52 rfl; go_wp2_with fail; clear e45 e52 HF; intro _ HF
      refine sl_nil (wp_cond_true (HF.at 53 rfl) (wp_seq (wp_region_lit ?_)))
      refine sl_const HF rfl rfl (.inr rfl) (by decide) ?_; clear HF; intro _ HF
      refine sl_nil (wp_ret ?_)
      try dsimp only [Exit.then]
      exact sl_ret1 HF rfl rfl ⟨by rw [HR.out], HM0.out⟩
    replace e5 := Decidable.not_not.1 e5
    rw [← e5] at l5
    have gs : ((str a.cls).toList == (str a.cls).toList) = true := by simp
    have gs2 : ((str a.cls).toList != (str a.cls).toList) = false := by rw [bne, gs]; rfl
    have E5 := Lib.hid e5
    clear e5
    by_cases e2 : ¬ (a.lits.length = b.lits.length)
    · have g1 : ((a.lits.length : Int) == (b.lits.length : Int)) = false := by simp; omega
      have g2 : ((a.lits.length : Int) != (b.lits.length : Int)) = true := by rw [bne, g1]; rfl
      have HR := Lib.hid (codeEq_false (a := a) (b := b) (fun h => e2 (by rw [h])))
      clear e2
      refine sl_op HF rfl rfl (by decide) ?_; intro K hK; have e2 := HF.see 2 rfl; go_wp2_with fail; clear e2 HF; intro _ HF
      refine sl_op HF rfl rfl (by decide) ?_; intro K hK; have e8 := HF.see 8 rfl; go_wp2_with fail; clear e8 HF; intro _ HF
      refine sl_op HF rfl rfl (by decide) ?_; intro K hK; have e3 := HF.see 3 rfl; go_wp2_with fail; clear e3 HF; intro _ HF
      refine sl_op HF rfl rfl (by decide) ?_; intro K hK; have e10 := HF.see 10 rfl; go_wp2_with fail; clear e10 HF; intro _ HF
      refine sl_op HF rfl rfl (by decide) ?_; intro K hK; have e9 := HF.see 9 rfl; have e11 := HF.see 11 rfl; go_wp2_with fail; clear e9 e11 HF; intro _ HF
      refine sl_move HF rfl rfl (.inl rfl) (by decide) rfl ?_; clear HF; intro _ HF
      refine sl_want HF rfl rfl rfl rfl (by decide) ?_; intro K hK; have e2 := HF.see 2 rfl; go_wp2_with fail; clear e2 HF; intro _ HF
      refine sl_want HF rfl rfl rfl rfl (by decide) ?_; intro K hK; have e14 := HF.see 14 rfl; go_wp2_with fail; clear e14 HF; intro _ HF
      refine sl_want HF rfl rfl rfl rfl (by decide) ?_; intro K hK; have e3 := HF.see 3 rfl; go_wp2_with fail; clear e3 HF; intro _ HF
      refine sl_want HF rfl rfl rfl rfl (by decide) ?_; intro K hK; have e16 := HF.see 16 rfl; go_wp2_with fail; clear e16 HF; intro _ HF
      refine sl_want HF rfl rfl rfl rfl (by decide) ?_; intro K hK; have e15 := HF.see 15 rfl; have e17 := HF.see 17 rfl; go_wp2_with fail; clear e15 e17 HF; intro _ HF
      refine sl_op HF rfl rfl (by decide) ?_; intro K hK; have e13 := HF.see 13 rfl; have e18 := HF.see 18 rfl; go_wp2_with fail; clear e13 e18 HF; intro _ HF
      refine sl_move HF rfl rfl (.inl rfl) (by decide) rfl ?_; clear HF; intro _ HF
      refine sl_want HF rfl rfl rfl rfl (by decide) ?_; intro K hK; have e2 := HF.see 2 rfl; go_wp2_with fail; clear e2 HF; intro _ HF
      refine sl_want HF rfl rfl rfl rfl (by decide) ?_; intro K hK; have e21 := HF.see 21 rfl; go_wp2_with fail; clear e21 HF; intro _ HF
      refine sl_want HF rfl rfl rfl rfl (by decide) ?_; intro K hK; have e3 := HF.see 3 rfl; go_wp2_with fail; clear e3 HF; intro _ HF
      refine sl_want HF rfl rfl rfl rfl (by decide) ?_; intro K hK; have e23 := HF.see 23 rfl; go_wp2_with fail; clear e23 HF; intro _ HF
      refine sl_want HF rfl rfl rfl rfl (by decide) ?_; intro K hK; have e22 := HF.see 22 rfl; have e24 := HF.see 24 rfl; go_wp2_with fail; clear e22 e24 HF; intro _ HF
      refine sl_op HF rfl rfl (by decide) ?_; intro K hK; have e20 := HF.see 20 rfl; have e25 := HF.see 25 rfl; go_wp2_with fail; clear e20 e25 HF; intro _ HF
      refine sl_move HF rfl rfl (.inl rfl) (by decide) rfl ?_; clear HF; intro _ HF
      refine sl_want HF rfl rfl rfl rfl (by decide) ?_; intro K hK; have e2 := HF.see 2 rfl; go_wp2_with fail; clear e2 HF; intro _ HF
      refine sl_want HF rfl rfl rfl rfl (by decide) ?_; intro K hK; have e28 := HF.see 28 rfl; go_wp2_with fail; clear e28 HF; intro _ HF
      refine sl_want HF rfl rfl rfl rfl (by decide) ?_; intro K hK; have e29 := HF.see 29 rfl; go_wp2_with fail; clear e29 HF; intro _ HF
      refine sl_want HF rfl rfl rfl rfl (by decide) ?_; intro K hK; have e3 := HF.see 3 rfl; go_wp2_with fail; clear e3 HF; intro _ HF
      refine sl_want HF rfl rfl rfl rfl (by decide) ?_; intro K hK; have e31 := HF.see 31 rfl; go_wp2_with fail; clear e31 HF; intro _ HF
      refine sl_want HF rfl rfl rfl rfl (by decide) ?_; intro K hK; have e32 := HF.see 32 rfl; go_wp2_with fail; clear e32 HF; intro _ HF
      refine sl_want HF rfl rfl rfl rfl (by decide) ?_; intro K hK; have e30 := HF.see 30 rfl; have e33 := HF.see 33 rfl; go_wp2_with fail; clear e30 e33 HF; intro _ HF
      refine sl_op HF rfl rfl (by decide) ?_; intro K hK; have e27 := HF.see 27 rfl; have e34 := HF.see 34 rfl; go_wp2_with fail; clear e27 e34 HF; intro _ HF
      refine sl_move HF rfl rfl (.inl rfl) (by decide) rfl ?_; clear HF; intro _ HF
      refine sl_skip HF rfl rfl rfl rfl (by decide) ?_; clear HF; intro _ HF
      refine sl_skip HF rfl rfl rfl rfl (by decide) ?_; clear HF; intro _ HF
      refine sl_skip HF rfl rfl rfl rfl (by decide) ?_; clear HF; intro _ HF
      refine sl_skip HF rfl rfl rfl rfl (by decide) ?_; clear HF; intro _ HF
      refine sl_skip HF rfl rfl rfl rfl (by decide) ?_; clear HF; intro _ HF
      refine sl_skip HF rfl rfl rfl rfl (by decide) ?_; clear HF; intro _ HF
      refine sl_skip HF rfl rfl rfl rfl (by decide) ?_; clear HF; intro _ HF
      refine sl_op HF rfl rfl (by decide) ?_; intro K hK; have e36 := HF.see 36 rfl; have e43 := HF.see 43 rfl; go_wp2_with fail; clear e36 e43 HF; intro _ HF
      refine sl_move HF rfl rfl (.inl rfl) (by decide) rfl ?_; clear HF; intro _ HF
      refine sl_skip HF rfl rfl rfl rfl (by decide) ?_; clear HF; intro _ HF
      refine sl_skip HF rfl rfl rfl rfl (by decide) ?_; clear HF; intro _ HF
      refine sl_skip HF rfl rfl rfl rfl (by decide) ?_; clear HF; intro _ HF
      refine sl_skip HF rfl rfl rfl rfl (by decide) ?_; clear HF; intro _ HF
      refine sl_skip HF rfl rfl rfl rfl (by decide) ?_; clear HF; intro _ HF
      refine sl_skip HF rfl rfl rfl rfl (by decide) ?_; clear HF; intro _ HF
      refine sl_skip HF rfl rfl rfl rfl (by decide) ?_; clear HF; intro _ HF
      refine sl_op HF rfl rfl (by decide) ?_; intro K hK; have e45 := HF.see 45 rfl; have e52 := HF.see 52 rfl; go_wp2_with fail; clear e45 e52 HF; intro _ HF
      refine sl_nil (wp_cond_true (HF.at 53 rfl) (wp_seq (wp_region_lit ?_)))
      refine sl_const HF rfl rfl (.inr rfl) (by decide) ?_; clear HF; intro _ HF
      refine sl_nil (wp_ret ?_)
      try dsimp only [Exit.then]
      exact sl_ret1 HF rfl rfl ⟨by rw [HR.out], HM0.out⟩
    replace e2 := Decidable.not_not.1 e2
    rw [← e2] at l2
    have E2 := Lib.hid e2
    clear e2
    by_cases e3 : ¬ (a.ins.length = b.ins.length)
    · have g1 : ((a.ins.length : Int) == (b.ins.length : Int)) = false := by simp; omega
      have g2 : ((a.ins.length : Int) != (b.ins.length : Int)) = true := by rw [bne, g1]; rfl
      have HR := Lib.hid (codeEq_false (a := a) (b := b) (fun h => e3 (by rw [h])))
      clear e3
      refine sl_op HF rfl rfl (by decide) ?_; intro K hK; have e2 := HF.see 2 rfl; go_wp2_with fail; clear e2 HF; intro _ HF
      refine sl_op HF rfl rfl (by decide) ?_; intro K hK; have e8 := HF.see 8 rfl; go_wp2_with fail; clear e8 HF; intro _ HF
      refine sl_op HF rfl rfl (by decide) ?_; intro K hK; have e3 := HF.see 3 rfl; go_wp2_with fail; clear e3 HF; intro _ HF
      refine sl_op HF rfl rfl (by decide) ?_; intro K hK; have e10 := HF.see 10 rfl; go_wp2_with fail; clear e10 HF; intro _ HF
      refine sl_op HF rfl rfl (by decide) ?_; intro K hK; have e9 := HF.see 9 rfl; have e11 := HF.see 11 rfl; go_wp2_with fail; clear e9 e11 HF; intro _ HF
      refine sl_move HF rfl rfl (.inl rfl) (by decide) rfl ?_; clear HF; intro _ HF
      refine sl_want HF rfl rfl rfl rfl (by decide) ?_; intro K hK; have e2 := HF.see 2 rfl; go_wp2_with fail; clear e2 HF; intro _ HF
      refine sl_want HF rfl rfl rfl rfl (by decide) ?_; intro K hK; have e14 := HF.see 14 rfl; go_wp2_with fail; clear e14 HF; intro _ HF
      refine sl_want HF rfl rfl rfl rfl (by decide) ?_; intro K hK; have e3 := HF.see 3 rfl; go_wp2_with fail; clear e3 HF; intro _ HF
      refine sl_want HF rfl rfl rfl rfl (by decide) ?_; intro K hK; have e16 := HF.see 16 rfl; go_wp2_with fail; clear e16 HF; intro _ HF
      refine sl_want HF rfl rfl rfl rfl (by decide) ?_; intro K hK; have e15 := HF.see 15 rfl; have e17 := HF.see 17 rfl; go_wp2_with fail; clear e15 e17 HF; intro _ HF
      refine sl_op HF rfl rfl (by decide) ?_; intro K hK; have e13 := HF.see 13 rfl; have e18 := HF.see 18 rfl; go_wp2_with fail; clear e13 e18 HF; intro _ HF
      refine sl_move HF rfl rfl (.inl rfl) (by decide) rfl ?_; clear HF; intro _ HF
      refine sl_want HF rfl rfl rfl rfl (by decide) ?_; intro K hK; have e2 := HF.see 2 rfl; go_wp2_with fail; clear e2 HF; intro _ HF
      refine sl_want HF rfl rfl rfl rfl (by decide) ?_; intro K hK; have e21 := HF.see 21 rfl; go_wp2_with fail; clear e21 HF; intro _ HF
      refine sl_want HF rfl rfl rfl rfl (by decide) ?_; intro K hK; have e3 := HF.see 3 rfl; go_wp2_with fail; clear e3 HF; intro _ HF
      refine sl_want HF rfl rfl rfl rfl (by decide) ?_; intro K hK; have e23 := HF.see 23 rfl; go_wp2_with fail; clear e23 HF; intro _ HF
      refine sl_want HF rfl rfl rfl rfl (by decide) ?_; intro K hK; have e22 := HF.see 22 rfl; have e24 := HF.see 24 rfl; go_wp2_with fail; clear e22 e24 HF; intro _ HF
      refine sl_op HF rfl rfl (by decide) ?_; intro K hK; have e20 := HF.see 20 rfl; have e25 := HF.see 25 rfl; go_wp2_with fail; clear e20 e25 HF; intro _ HF
      refine sl_move HF rfl rfl (.inl rfl) (by decide) rfl ?_; clear HF; intro _ HF
      refine sl_want HF rfl rfl rfl rfl (by decide) ?_; intro K hK; have e2 := HF.see 2 rfl; go_wp2_with fail; clear e2 HF; intro _ HF
      refine sl_want HF rfl rfl rfl rfl (by decide) ?_; intro K hK; have e28 := HF.see 28 rfl; go_wp2_with fail; clear e28 HF; intro _ HF
      refine sl_want HF rfl rfl rfl rfl (by decide) ?_; intro K hK; have e29 := HF.see 29 rfl; go_wp2_with fail; clear e29 HF; intro _ HF
      refine sl_want HF rfl rfl rfl rfl (by decide) ?_; intro K hK; have e3 := HF.see 3 rfl; go_wp2_with fail; clear e3 HF; intro _ HF
      refine sl_want HF rfl rfl rfl rfl (by decide) ?_; intro K hK; have e31 := HF.see 31 rfl; go_wp2_with fail; clear e31 HF; intro _ HF
      refine sl_want HF rfl rfl rfl rfl (by decide) ?_; intro K hK; have e32 := HF.see 32 rfl; go_wp2_with fail; clear e32 HF; intro _ HF
      refine sl_want HF rfl rfl rfl rfl (by decide) ?_; intro K hK; have e30 := HF.see 30 rfl; have e33 := HF.see 33 rfl; go_wp2_with fail; clear e30 e33 HF; intro _ HF
      refine sl_op HF rfl rfl (by decide) ?_; intro K hK; have e27 := HF.see 27 rfl; have e34 := HF.see 34 rfl; go_wp2_with fail; clear e27 e34 HF; intro _ HF
      refine sl_move HF rfl rfl (.inl rfl) (by decide) rfl ?_; clear HF; intro _ HF
      refine sl_want HF rfl rfl rfl rfl (by decide) ?_; intro K hK; have e2 := HF.see 2 rfl; go_wp2_with fail; clear e2 HF; intro _ HF
      refine sl_want HF rfl rfl rfl rfl (by decide) ?_; intro K hK; have e37 := HF.see 37 rfl; go_wp2_with fail; clear e37 HF; intro _ HF
      refine sl_want HF rfl rfl rfl rfl (by decide) ?_; intro K hK; have e38 := HF.see 38 rfl; go_wp2_with fail; clear e38 HF; intro _ HF
      refine sl_want HF rfl rfl rfl rfl (by decide) ?_; intro K hK; have e3 := HF.see 3 rfl; go_wp2_with fail; clear e3 HF; intro _ HF
      refine sl_want HF rfl rfl rfl rfl (by decide) ?_; intro K hK; have e40 := HF.see 40 rfl; go_wp2_with fail; clear e40 HF; intro _ HF
      refine sl_want HF rfl rfl rfl rfl (by decide) ?_; intro K hK; have e41 := HF.see 41 rfl; go_wp2_with fail; clear e41 HF; intro _ HF
      refine sl_want HF rfl rfl rfl rfl (by decide) ?_; intro K hK; have e39 := HF.see 39 rfl; have e42 := HF.see 42 rfl; go_wp2_with fail; clear e39 e42 HF; intro _ HF
      refine sl_op HF rfl rfl (by decide) ?_; intro K hK; have e36 := HF.see 36 rfl; have e43 := HF.see 43 rfl; go_wp2_with fail; clear e36 e43 HF; intro _ HF
      refine sl_move HF rfl rfl (.inl rfl) (by decide) rfl ?_; clear HF; intro _ HF
      refine sl_skip HF rfl rfl rfl rfl (by decide) ?_; clear HF; intro _ HF
      refine sl_skip HF rfl rfl rfl rfl (by decide) ?_; clear HF; intro _ HF
      refine sl_skip HF rfl rfl rfl rfl (by decide) ?_; clear HF; intro _ HF
      refine sl_skip HF rfl rfl rfl rfl (by decide) ?_; clear HF; intro _ HF
      refine sl_skip HF rfl rfl rfl rfl (by decide) ?_; clear HF; intro _ HF
      refine sl_skip HF rfl rfl rfl rfl (by decide) ?_; clear HF; intro _ HF
      refine sl_skip HF rfl rfl rfl rfl (by decide) ?_; clear HF; intro _ HF
      refine sl_op HF rfl rfl (by decide) ?_; intro K hK; have e45 := HF.see 45 rfl; have e52 := HF.see 52 rfl; go_wp2_with fail; clear e45 e52 HF; intro _ HF
      refine sl_nil (wp_cond_true (HF.at 53 rfl) (wp_seq (wp_region_lit ?_)))
      refine sl_const HF rfl rfl (.inr rfl) (by decide) ?_; clear HF; intro _ HF
      refine sl_nil (wp_ret ?_)
      try dsimp only [Exit.then]
      exact sl_ret1 HF rfl rfl ⟨by rw [HR.out], HM0.out⟩
    replace e3 := Decidable.not_not.1 e3
    rw [← e3] at l3
    have E3 := Lib.hid e3
    clear e3
    by_cases e4 : ¬ (a.blocks.length = b.blocks.length)
    · have g1 : ((a.blocks.length : Int) == (b.blocks.length : Int)) = false := by simp; omega
      have g2 : ((a.blocks.length : Int) != (b.blocks.length : Int)) = true := by rw [bne, g1]; rfl
      have HR := Lib.hid (codeEq_false (a := a) (b := b) (fun h => e4 (by rw [h])))
      clear e4
      refine sl_op HF rfl rfl (by decide) ?_; intro K hK; have e2 := HF.see 2 rfl; go_wp2_with fail; clear e2 HF; intro _ HF
      refine sl_op HF rfl rfl (by decide) ?_; intro K hK; have e8 := HF.see 8 rfl; go_wp2_with fail; clear e8 HF; intro _ HF
      refine sl_op HF rfl rfl (by decide) ?_; intro K hK; have e3 := HF.see 3 rfl; go_wp2_with fail; clear e3 HF; intro _ HF
      refine sl_op HF rfl rfl (by decide) ?_; intro K hK; have e10 := HF.see 10 rfl; go_wp2_with fail; clear e10 HF; intro _ HF
      refine sl_op HF rfl rfl (by decide) ?_; intro K hK; have e9 := HF.see 9 rfl; have e11 := HF.see 11 rfl; go_wp2_with fail; clear e9 e11 HF; intro _ HF
      refine sl_move HF rfl rfl (.inl rfl) (by decide) rfl ?_; clear HF; intro _ HF
      refine sl_want HF rfl rfl rfl rfl (by decide) ?_; intro K hK; have e2 := HF.see 2 rfl; go_wp2_with fail; clear e2 HF; intro _ HF
      refine sl_want HF rfl rfl rfl rfl (by decide) ?_; intro K hK; have e14 := HF.see 14 rfl; go_wp2_with fail; clear e14 HF; intro _ HF
      refine sl_want HF rfl rfl rfl rfl (by decide) ?_; intro K hK; have e3 := HF.see 3 rfl; go_wp2_with fail; clear e3 HF; intro _ HF
      refine sl_want HF rfl rfl rfl rfl (by decide) ?_; intro K hK; have e16 := HF.see 16 rfl; go_wp2_with fail; clear e16 HF; intro _ HF
      refine sl_want HF rfl rfl rfl rfl (by decide) ?_; intro K hK; have e15 := HF.see 15 rfl; have e17 := HF.see 17 rfl; go_wp2_with fail; clear e15 e17 HF; intro _ HF
      refine sl_op HF rfl rfl (by decide) ?_; intro K hK; have e13 := HF.see 13 rfl; have e18 := HF.see 18 rfl; go_wp2_with fail; clear e13 e18 HF; intro _ HF
      refine sl_move HF rfl rfl (.inl rfl) (by decide) rfl ?_; clear HF; intro _ HF
      refine sl_want HF rfl rfl rfl rfl (by decide) ?_; intro K hK; have e2 := HF.see 2 rfl; go_wp2_with fail; clear e2 HF; intro _ HF
      refine sl_want HF rfl rfl rfl rfl (by decide) ?_; intro K hK; have e21 := HF.see 21 rfl; go_wp2_with fail; clear e21 HF; intro _ HF
      refine sl_want HF rfl rfl rfl rfl (by decide) ?_; intro K hK; have e3 := HF.see 3 rfl; go_wp2_with fail; clear e3 HF; intro _ HF
      refine sl_want HF rfl rfl rfl rfl (by decide) ?_; intro K hK; have e23 := HF.see 23 rfl; go_wp2_with fail; clear e23 HF; intro _ HF
      refine sl_want HF rfl rfl rfl rfl (by decide) ?_; intro K hK; have e22 := HF.see 22 rfl; have e24 := HF.see 24 rfl; go_wp2_with fail; clear e22 e24 HF; intro _ HF
      refine sl_op HF rfl rfl (by decide) ?_; intro K hK; have e20 := HF.see 20 rfl; have e25 := HF.see 25 rfl; go_wp2_with fail; clear e20 e25 HF; intro _ HF
      refine sl_move HF rfl rfl (.inl rfl) (by decide) rfl ?_; clear HF; intro _ HF
      refine sl_want HF rfl rfl rfl rfl (by decide) ?_; intro K hK; have e2 := HF.see 2 rfl; go_wp2_with fail; clear e2 HF; intro _ HF
      refine sl_want HF rfl rfl rfl rfl (by decide) ?_; intro K hK; have e28 := HF.see 28 rfl; go_wp2_with fail; clear e28 HF; intro _ HF
      refine sl_want HF rfl rfl rfl rfl (by decide) ?_; intro K hK; have e29 := HF.see 29 rfl; go_wp2_with fail; clear e29 HF; intro _ HF
      refine sl_want HF rfl rfl rfl rfl (by decide) ?_; intro K hK; have e3 := HF.see 3 rfl; go_wp2_with fail; clear e3 HF; intro _ HF
      refine sl_want HF rfl rfl rfl rfl (by decide) ?_; intro K hK; have e31 := HF.see 31 rfl; go_wp2_with fail; clear e31 HF; intro _ HF
      refine sl_want HF rfl rfl rfl rfl (by decide) ?_; intro K hK; have e32 := HF.see 32 rfl; go_wp2_with fail; clear e32 HF; intro _ HF
      refine sl_want HF rfl rfl rfl rfl (by decide) ?_; intro K hK; have e30 := HF.see 30 rfl; have e33 := HF.see 33 rfl; go_wp2_with fail; clear e30 e33 HF; intro _ HF
      refine sl_op HF rfl rfl (by decide) ?_; intro K hK; have e27 := HF.see 27 rfl; have e34 := HF.see 34 rfl; go_wp2_with fail; clear e27 e34 HF; intro _ HF
      refine sl_move HF rfl rfl (.inl rfl) (by decide) rfl ?_; clear HF; intro _ HF
      refine sl_want HF rfl rfl rfl rfl (by decide) ?_; intro K hK; have e2 := HF.see 2 rfl; go_wp2_with fail; clear e2 HF; intro _ HF
      refine sl_want HF rfl rfl rfl rfl (by decide) ?_; intro K hK; have e37 := HF.see 37 rfl; go_wp2_with fail; clear e37 HF; intro _ HF
      refine sl_want HF rfl rfl rfl rfl (by decide) ?_; intro K hK; have e38 := HF.see 38 rfl; go_wp2_with fail; clear e38 HF; intro _ HF
      refine sl_want HF rfl rfl rfl rfl (by decide) ?_; intro K hK; have e3 := HF.see 3 rfl; go_wp2_with fail; clear e3 HF; intro _ HF
      refine sl_want HF rfl rfl rfl rfl (by decide) ?_; intro K hK; have e40 := HF.see 40 rfl; go_wp2_with fail; clear e40 HF; intro _ HF
      refine sl_want HF rfl rfl rfl rfl (by decide) ?_; intro K hK; have e41 := HF.see 41 rfl; go_wp2_with fail; clear e41 HF; intro _ HF
      refine sl_want HF rfl rfl rfl rfl (by decide) ?_; intro K hK; have e39 := HF.see 39 rfl; have e42 := HF.see 42 rfl; go_wp2_with fail; clear e39 e42 HF; intro _ HF
      refine sl_op HF rfl rfl (by decide) ?_; intro K hK; have e36 := HF.see 36 rfl; have e43 := HF.see 43 rfl; go_wp2_with fail; clear e36 e43 HF; intro _ HF
      refine sl_move HF rfl rfl (.inl rfl) (by decide) rfl ?_; clear HF; intro _ HF
      refine sl_want HF rfl rfl rfl rfl (by decide) ?_; intro K hK; have e2 := HF.see 2 rfl; go_wp2_with fail; clear e2 HF; intro _ HF
      refine sl_want HF rfl rfl rfl rfl (by decide) ?_; intro K hK; have e46 := HF.see 46 rfl; go_wp2_with fail; clear e46 HF; intro _ HF
      refine sl_want HF rfl rfl rfl rfl (by decide) ?_; intro K hK; have e47 := HF.see 47 rfl; go_wp2_with fail; clear e47 HF; intro _ HF
      refine sl_want HF rfl rfl rfl rfl (by decide) ?_; intro K hK; have e3 := HF.see 3 rfl; go_wp2_with fail; clear e3 HF; intro _ HF
      refine sl_want HF rfl rfl rfl rfl (by decide) ?_; intro K hK; have e49 := HF.see 49 rfl; go_wp2_with fail; clear e49 HF; intro _ HF
      refine sl_want HF rfl rfl rfl rfl (by decide) ?_; intro K hK; have e50 := HF.see 50 rfl; go_wp2_with fail; clear e50 HF; intro _ HF
      refine sl_want HF rfl rfl rfl rfl (by decide) ?_; intro K hK; have e48 := HF.see 48 rfl; have e51 := HF.see 51 rfl; go_wp2_with fail; clear e48 e51 HF; intro _ HF
      refine sl_op HF rfl rfl (by decide) ?_; intro K hK; have e45 := HF.see 45 rfl; have e52 := HF.see 52 rfl; go_wp2_with fail; clear e45 e52 HF; intro _ HF
      refine sl_nil (wp_cond_true (HF.at 53 rfl) (wp_seq (wp_region_lit ?_)))
      refine sl_const HF rfl rfl (.inr rfl) (by decide) ?_; clear HF; intro _ HF
      refine sl_nil (wp_ret ?_)
      try dsimp only [Exit.then]
      exact sl_ret1 HF rfl rfl ⟨by rw [HR.out], HM0.out⟩
    replace e4 := Decidable.not_not.1 e4
    rw [← e4] at l4
    have E4 := Lib.hid e4
    clear e4
    refine sl_op HF rfl rfl (by decide) ?_; intro K hK; have e2 := HF.see 2 rfl; go_wp2_with fail; clear e2 HF; intro _ HF
    refine sl_op HF rfl rfl (by decide) ?_; intro K hK; have e8 := HF.see 8 rfl; go_wp2_with fail; clear e8 HF; intro _ HF
    refine sl_op HF rfl rfl (by decide) ?_; intro K hK; have e3 := HF.see 3 rfl; go_wp2_with fail; clear e3 HF; intro _ HF
    refine sl_op HF rfl rfl (by decide) ?_; intro K hK; have e10 := HF.see 10 rfl; go_wp2_with fail; clear e10 HF; intro _ HF
    refine sl_op HF rfl rfl (by decide) ?_; intro K hK; have e9 := HF.see 9 rfl; have e11 := HF.see 11 rfl; go_wp2_with fail; clear e9 e11 HF; intro _ HF
    refine sl_move HF rfl rfl (.inl rfl) (by decide) rfl ?_; clear HF; intro _ HF
    refine sl_want HF rfl rfl rfl rfl (by decide) ?_; intro K hK; have e2 := HF.see 2 rfl; go_wp2_with fail; clear e2 HF; intro _ HF
    refine sl_want HF rfl rfl rfl rfl (by decide) ?_; intro K hK; have e14 := HF.see 14 rfl; go_wp2_with fail; clear e14 HF; intro _ HF
    refine sl_want HF rfl rfl rfl rfl (by decide) ?_; intro K hK; have e3 := HF.see 3 rfl; go_wp2_with fail; clear e3 HF; intro _ HF
    refine sl_want HF rfl rfl rfl rfl (by decide) ?_; intro K hK; have e16 := HF.see 16 rfl; go_wp2_with fail; clear e16 HF; intro _ HF
    refine sl_want HF rfl rfl rfl rfl (by decide) ?_; intro K hK; have e15 := HF.see 15 rfl; have e17 := HF.see 17 rfl; go_wp2_with fail; clear e15 e17 HF; intro _ HF
    refine sl_op HF rfl rfl (by decide) ?_; intro K hK; have e13 := HF.see 13 rfl; have e18 := HF.see 18 rfl; go_wp2_with fail; clear e13 e18 HF; intro _ HF
    refine sl_move HF rfl rfl (.inl rfl) (by decide) rfl ?_; clear HF; intro _ HF
    refine sl_want HF rfl rfl rfl rfl (by decide) ?_; intro K hK; have e2 := HF.see 2 rfl; go_wp2_with fail; clear e2 HF; intro _ HF
    refine sl_want HF rfl rfl rfl rfl (by decide) ?_; intro K hK; have e21 := HF.see 21 rfl; go_wp2_with fail; clear e21 HF; intro _ HF
    refine sl_want HF rfl rfl rfl rfl (by decide) ?_; intro K hK; have e3 := HF.see 3 rfl; go_wp2_with fail; clear e3 HF; intro _ HF
    refine sl_want HF rfl rfl rfl rfl (by decide) ?_; intro K hK; have e23 := HF.see 23 rfl; go_wp2_with fail; clear e23 HF; intro _ HF
    refine sl_want HF rfl rfl rfl rfl (by decide) ?_; intro K hK; have e22 := HF.see 22 rfl; have e24 := HF.see 24 rfl; go_wp2_with fail; clear e22 e24 HF; intro _ HF
    refine sl_op HF rfl rfl (by decide) ?_; intro K hK; have e20 := HF.see 20 rfl; have e25 := HF.see 25 rfl; go_wp2_with fail; clear e20 e25 HF; intro _ HF
    refine sl_move HF rfl rfl (.inl rfl) (by decide) rfl ?_; clear HF; intro _ HF
    refine sl_want HF rfl rfl rfl rfl (by decide) ?_; intro K hK; have e2 := HF.see 2 rfl; go_wp2_with fail; clear e2 HF; intro _ HF
    refine sl_want HF rfl rfl rfl rfl (by decide) ?_; intro K hK; have e28 := HF.see 28 rfl; go_wp2_with fail; clear e28 HF; intro _ HF
    refine sl_want HF rfl rfl rfl rfl (by decide) ?_; intro K hK; have e29 := HF.see 29 rfl; go_wp2_with fail; clear e29 HF; intro _ HF
    refine sl_want HF rfl rfl rfl rfl (by decide) ?_; intro K hK; have e3 := HF.see 3 rfl; go_wp2_with fail; clear e3 HF; intro _ HF
    refine sl_want HF rfl rfl rfl rfl (by decide) ?_; intro K hK; have e31 := HF.see 31 rfl; go_wp2_with fail; clear e31 HF; intro _ HF
    refine sl_want HF rfl rfl rfl rfl (by decide) ?_; intro K hK; have e32 := HF.see 32 rfl; go_wp2_with fail; clear e32 HF; intro _ HF
    refine sl_want HF rfl rfl rfl rfl (by decide) ?_; intro K hK; have e30 := HF.see 30 rfl; have e33 := HF.see 33 rfl; go_wp2_with fail; clear e30 e33 HF; intro _ HF
    refine sl_op HF rfl rfl (by decide) ?_; intro K hK; have e27 := HF.see 27 rfl; have e34 := HF.see 34 rfl; go_wp2_with fail; clear e27 e34 HF; intro _ HF
    refine sl_move HF rfl rfl (.inl rfl) (by decide) rfl ?_; clear HF; intro _ HF
    refine sl_want HF rfl rfl rfl rfl (by decide) ?_; intro K hK; have e2 := HF.see 2 rfl; go_wp2_with fail; clear e2 HF; intro _ HF
    refine sl_want HF rfl rfl rfl rfl (by decide) ?_; intro K hK; have e37 := HF.see 37 rfl; go_wp2_with fail; clear e37 HF; intro _ HF
    refine sl_want HF rfl rfl rfl rfl (by decide) ?_; intro K hK; have e38 := HF.see 38 rfl; go_wp2_with fail; clear e38 HF; intro _ HF
    refine sl_want HF rfl rfl rfl rfl (by decide) ?_; intro K hK; have e3 := HF.see 3 rfl; go_wp2_with fail; clear e3 HF; intro _ HF
    refine sl_want HF rfl rfl rfl rfl (by decide) ?_; intro K hK; have e40 := HF.see 40 rfl; go_wp2_with fail; clear e40 HF; intro _ HF
    refine sl_want HF rfl rfl rfl rfl (by decide) ?_; intro K hK; have e41 := HF.see 41 rfl; go_wp2_with fail; clear e41 HF; intro _ HF
    refine sl_want HF rfl rfl rfl rfl (by decide) ?_; intro K hK; have e39 := HF.see 39 rfl; have e42 := HF.see 42 rfl; go_wp2_with fail; clear e39 e42 HF; intro _ HF
    refine sl_op HF rfl rfl (by decide) ?_; intro K hK; have e36 := HF.see 36 rfl; have e43 := HF.see 43 rfl; go_wp2_with fail; clear e36 e43 HF; intro _ HF
    refine sl_move HF rfl rfl (.inl rfl) (by decide) rfl ?_; clear HF; intro _ HF
    refine sl_want HF rfl rfl rfl rfl (by decide) ?_; intro K hK; have e2 := HF.see 2 rfl; go_wp2_with fail; clear e2 HF; intro _ HF
    refine sl_want HF rfl rfl rfl rfl (by decide) ?_; intro K hK; have e46 := HF.see 46 rfl; go_wp2_with fail; clear e46 HF; intro _ HF
    refine sl_want HF rfl rfl rfl rfl (by decide) ?_; intro K hK; have e47 := HF.see 47 rfl; go_wp2_with fail; clear e47 HF; intro _ HF
    refine sl_want HF rfl rfl rfl rfl (by decide) ?_; intro K hK; have e3 := HF.see 3 rfl; go_wp2_with fail; clear e3 HF; intro _ HF
    refine sl_want HF rfl rfl rfl rfl (by decide) ?_; intro K hK; have e49 := HF.see 49 rfl; go_wp2_with fail; clear e49 HF; intro _ HF
    refine sl_want HF rfl rfl rfl rfl (by decide) ?_; intro K hK; have e50 := HF.see 50 rfl; go_wp2_with fail; clear e50 HF; intro _ HF
    refine sl_want HF rfl rfl rfl rfl (by decide) ?_; intro K hK; have e48 := HF.see 48 rfl; have e51 := HF.see 51 rfl; go_wp2_with fail; clear e48 e51 HF; intro _ HF
    refine sl_op HF rfl rfl (by decide) ?_; intro K hK; have e45 := HF.see 45 rfl; have e52 := HF.see 52 rfl; go_wp2_with fail; clear e45 e52 HF; intro _ HF
    refine sl_nil (wp_cond_false (HF.at 53 rfl) (wp_skip (sl_then (wp_seq ?_))))
    clear k0 k1 k2 k3 k4 k5 l0 l1 l2 l3 l4 l5
    refine rs_lits (HF.keep [2, 3]) HA HB HFA HFB E2.out (Mod.refl _ _) (fun hne a2 w2 HF hm2 => ?_) (fun heq a2 w2 HF hm2 => ?_)
    · try dsimp only [Exit.then]
      exact sl_ret1 HF rfl rfl ⟨by rw [codeEq_false (a := a) (b := b) (fun h => hne (by rw [h]))], HM0.out.trans hm2⟩
    have EL := Lib.hid heq
    clear heq
    refine sl_then (wp_seq ?_)
    refine rs_ins (HF.keep [2, 3]) HA HB HFA HFB E3.out hm2 (fun hne a3 w3 HF hm3 => ?_) (fun heq a3 w3 HF hm3 => ?_)
    · try dsimp only [Exit.then]
      exact sl_ret1 HF rfl rfl ⟨by rw [codeEq_false (a := a) (b := b) (fun h => hne (by rw [h]))], HM0.out.trans hm3⟩
    have EI := Lib.hid heq
    clear heq
    refine sl_then (wp_seq ?_)
    refine rs_blocks (HF.keep [2, 3]) HA HB HFA HFB IH E4.out hm3 (fun hne a4 w4 HF hm4 => ?_) (fun heq a4 w4 HF hm4 => ?_)
    · try dsimp only [Exit.then]
      exact sl_ret1 HF rfl rfl ⟨by rw [codeEq_false (a := a) (b := b) (fun h => hne (by rw [h]))], HM0.out.trans hm4⟩
    have HR := Lib.hid (codeEq_true (code_ext E0.out E1.out EL.out EI.out heq E5.out))
    clear heq
    refine sl_then (wp_seq (wp_region_lit ?_))
    refine sl_const HF rfl rfl (.inr rfl) (by decide) ?_; clear HF; intro _ HF
    refine sl_nil (wp_ret ?_)
    exact sl_ret1 HF rfl rfl ⟨by rw [HR.out], HM0.out.trans hm4⟩
end Go.Proofs.YtefloadjolpgbaaDoor
