/- Parts of the proof of CodeRunsUpto, joined: CodR. -/
import Derived.Test.YtefloadjolpgbaaDoorCodeRunsUptoj4
namespace Go.Proofs.YtefloadjolpgbaaDoor
open Go.RowKit

noncomputable def rsBody : Code := (Tryd.f11.body).getD .skip

def RslitsI (w1 : World) (a b : CodeT) (ga gb : Nat) (ac : Act) (w : World) : Prop :=
  ∃ k : Nat, Sl 109 [(2, .pointer (some ⟨ga, 0, none⟩)), (3, .pointer (some ⟨gb, 0, none⟩)), (5, .int .i64 (k : Nat))] ac ∧ k ≤ a.lits.length ∧ a.lits.take k = b.lits.take k ∧ Mod Nil w1 w

set_option maxHeartbeats 6400000 in
set_option maxRecDepth 100000 in
/-- The loop over lits. -/
theorem rs_lits {Q : Exit → Act → World → Prop} {a b : CodeT} {va vb : CodeV} {ga gb : Nat} {w1 w : World} {ac : Act}
    (HF : Sl 109 [(2, .pointer (some ⟨ga, 0, none⟩)), (3, .pointer (some ⟨gb, 0, none⟩))] ac) (HA : Hid (Blk w1 ga 26 (codeArr a va))) (HB : Hid (Blk w1 gb 26 (codeArr b vb))) (HFA : Hid (∀ w', Mod Nil w1 w' → CodeF w' a va)) (HFB : Hid (∀ w', Mod Nil w1 w' → CodeF w' b vb))
    (hlen : a.lits.length = b.lits.length) (hm : Mod Nil w1 w)
    (hQ0 : a.lits ≠ b.lits → ∀ ac' w', Sl 109 [(4, .bool false)] ac' → Mod Nil w1 w' → Q .ret ac' w')
    (hQ1 : a.lits = b.lits → ∀ ac' w', Sl 109 [(2, .pointer (some ⟨ga, 0, none⟩)), (3, .pointer (some ⟨gb, 0, none⟩))] ac' → Mod Nil w1 w' → Q .normal ac' w') :
    (part [1, 1, 0] rsBody).wp Tryd.prog Q ac w := by
  have HQ0 := Lib.hid hQ0
  have HQ1 := Lib.hid hQ1
  have HLEN := Lib.hid hlen
  have HM := Lib.hid hm
  have hst28 : Tryd.prog.stoodInHeld 45 = false := by kernel_rfl
  have heg28 : Tryd.prog.eqGuardType Tryd.prog.depth 45 = false := by kernel_rfl
  clear hQ0 hQ1 hlen hm
  obtain ⟨n, hn⟩ : ∃ n, n = a.lits.length := ⟨_, rfl⟩
  have HN := Lib.hid hn
  have hnb : n ≤ 9223372036854775807 := by
    have := (HFA.out w1 (Mod.refl _ _)).n2
    have := (HFA.out w1 (Mod.refl _ _)).m2
    omega
  clear hn
  conv => arg 2; whnf
  refine wp_seq (wp_region_lit ?_)
  refine sl_const HF rfl rfl (.inr rfl) (by decide) ?_; clear HF; intro _ HF
  refine sl_nil (wp_block (wp_loop (RslitsI w1 a b ga gb) (fun ac _ => n - (intOf (ac.eval (.tmp 5))).toNat) ?_ ?_))
  · exact ⟨0, HF.keep [2, 3, 5], Nat.zero_le _, rfl, HM.out⟩
  · clear HF
    rintro ac2 w2 ⟨k, HF, hk, heq, hmod⟩
    have hmu : n - (intOf ((ac2.tmps[5]?).getD undef)).toNat = n - k := by rw [HF.see 5 rfl]; simp [intOf]
    have HMU := Lib.hid hmu
    have HEQ := Lib.hid heq
    have HMOD := Lib.hid hmod
    rw [← HN.out] at hk
    have ka := (code_boxed (HA.out.keep hmod id)).2.2.1
    have kb := (code_boxed (HB.out.keep hmod id)).2.2.1
    rw [← HLEN.out, ← HN.out] at kb
    rw [← HN.out] at ka
    have hcap : n ≤ va.c2 := by have := (HFA.out w1 (Mod.refl _ _)).n2; rw [← HN.out] at this; exact this
    have hcapb : n ≤ vb.c2 := by have := (HFB.out w1 (Mod.refl _ _)).n2; rw [← HLEN.out, ← HN.out] at this; exact this
    clear hmu heq hmod
    by_cases hlt : k < n
    · have hlt' : decide ((k : Int) < n) = true := by simp; omega
      obtain ⟨x, hx⟩ : ∃ x, a.lits[k]? = some x := ⟨_, List.getElem?_eq_getElem (by rw [← HN.out]; exact hlt)⟩
      obtain ⟨y, hy⟩ : ∃ y, b.lits[k]? = some y := ⟨_, List.getElem?_eq_getElem (by rw [← HLEN.out, ← HN.out]; exact hlt)⟩
      obtain ⟨ad, hAd, hab, a0, a1, a2⟩ := eqLit_at (HFA.out w2 HMOD.out).r2 hx
      obtain ⟨bd, hBd, hbb, b0, b1, b2⟩ := eqLit_at (HFB.out w2 HMOD.out).r2 hy
      rw [hAd] at ka
      rw [hBd] at kb
      have HX := Lib.hid hx
      have HY := Lib.hid hy
      have HDIFF := Lib.hid (show x ≠ y → a.lits ≠ b.lits from fun h he => by
        rw [he] at hx
        rw [hx] at hy
        cases hy
        exact h rfl)
      clear hx hy hAd hBd
      refine wp_seq (wp_seq (wp_region_lit ?_))
      refine sl_move HF rfl rfl (.inl rfl) (by decide) rfl ?_; clear HF; intro _ HF
      refine sl_op HF rfl rfl (by decide) ?_; intro K hK; have e2 := HF.see 2 rfl; go_wp2_with fail; clear e2 HF; intro _ HF
      refine sl_op HF rfl rfl (by decide) ?_; intro K hK; have e55 := HF.see 55 rfl; go_wp2_with fail; clear e55 HF; intro _ HF
      refine sl_op HF rfl rfl (by decide) ?_; intro K hK; have e56 := HF.see 56 rfl; go_wp2_with fail; clear e56 HF; intro _ HF
      refine sl_op HF rfl rfl (by decide) ?_; intro K hK; have e54 := HF.see 54 rfl; have e57 := HF.see 57 rfl; go_wp2_with fail; clear e54 e57 HF; intro _ HF
      refine sl_nil (wp_cond_true (HF.at 58 rfl) (wp_skip (sl_then (wp_seq (wp_block (wp_seq ?_))))))

      by_cases ekind : ¬ (x.kind = y.kind)
      · have g1 : (x.kind == y.kind) = false := by simp [ekind]
        have g2 : (x.kind != y.kind) = true := by rw [bne, g1]; rfl
        have HR := Lib.hid (HDIFF.out (fun h => ekind (by rw [h])))
        clear ekind
        apply sl_flow5 (N := 0) [some 61, some 62, some 63, some 64, some 65, some 66, some 67, some 68, some 69, some 70, some 71] [.quiet 0 0, .quiet 0 0, .quiet 0 0, .quiet 0 0, .quiet 0 0, .quiet 0 0, .quiet 0 0, .quiet 0 0, .quiet 0 0, .quiet 0 0, .quiet 0 0] (PhEq w2.drew) [_, _, _, _, _, _, _, _, _, _, _] HF
        case hm => kernel_rfl
        case hok => kernel_rfl
        case hfl => rfl
        case h0 => exact (fun _ => ⟨rfl⟩)
        case hobs =>
          apply And.intro
          · apply ob_quiet
            case hg => rfl
            case hop =>
              intro ax wx h k hlo hhi hP hk K hK
              have e2 := hk.see 2 rfl rfl
              clear hk
              obtain rfl := hP.eq
              go_wp2_with fail
              all_goals first | exact hP | rfl
            case hst => exact fun h h' e => rfl
          apply And.intro
          · apply ob_quiet
            case hg => rfl
            case hop =>
              intro ax wx h k hlo hhi hP hk K hK
              have e61 := hk.see 61 rfl rfl
              clear hk
              obtain rfl := hP.eq
              go_wp2_with fail
              all_goals first | exact hP | rfl
            case hst => exact fun h h' e => rfl
          apply And.intro
          · apply ob_quiet
            case hg => rfl
            case hop =>
              intro ax wx h k hlo hhi hP hk K hK
              have e5 := hk.see 5 rfl rfl
              clear hk
              go_wp2_with fail
              all_goals first | exact hP | rfl
            case hst => exact fun h h' e => rfl
          apply And.intro
          · apply ob_quiet
            case hg => rfl
            case hop =>
              intro ax wx h k hlo hhi hP hk K hK
              have e62 := hk.see 62 rfl rfl
              have e63 := hk.see 63 rfl rfl
              clear hk
              obtain rfl := hP.eq
              go_wp2_with fail
              all_goals first | exact hP | rfl
            case hst => exact fun h h' e => rfl
          apply And.intro
          · apply ob_quiet
            case hg => rfl
            case hop =>
              intro ax wx h k hlo hhi hP hk K hK
              have e64 := hk.see 64 rfl rfl
              clear hk
              obtain rfl := hP.eq
              go_wp2_with fail
              all_goals first | exact hP | rfl
            case hst => exact fun h h' e => rfl
          apply And.intro
          · apply ob_quiet
            case hg => rfl
            case hop =>
              intro ax wx h k hlo hhi hP hk K hK
              have e3 := hk.see 3 rfl rfl
              clear hk
              obtain rfl := hP.eq
              go_wp2_with fail
              all_goals first | exact hP | rfl
            case hst => exact fun h h' e => rfl
          apply And.intro
          · apply ob_quiet
            case hg => rfl
            case hop =>
              intro ax wx h k hlo hhi hP hk K hK
              have e66 := hk.see 66 rfl rfl
              clear hk
              obtain rfl := hP.eq
              go_wp2_with fail
              all_goals first | exact hP | rfl
            case hst => exact fun h h' e => rfl
          apply And.intro
          · apply ob_quiet
            case hg => rfl
            case hop =>
              intro ax wx h k hlo hhi hP hk K hK
              have e5 := hk.see 5 rfl rfl
              clear hk
              go_wp2_with fail
              all_goals first | exact hP | rfl
            case hst => exact fun h h' e => rfl
          apply And.intro
          · apply ob_quiet
            case hg => rfl
            case hop =>
              intro ax wx h k hlo hhi hP hk K hK
              have e67 := hk.see 67 rfl rfl
              have e68 := hk.see 68 rfl rfl
              clear hk
              obtain rfl := hP.eq
              go_wp2_with fail
              all_goals first | exact hP | rfl
            case hst => exact fun h h' e => rfl
          apply And.intro
          · apply ob_quiet
            case hg => rfl
            case hop =>
              intro ax wx h k hlo hhi hP hk K hK
              have e69 := hk.see 69 rfl rfl
              clear hk
              obtain rfl := hP.eq
              go_wp2_with fail
              all_goals first | exact hP | rfl
            case hst => exact fun h h' e => rfl
          apply And.intro
          · apply ob_quiet
            case hg => rfl
            case hop =>
              intro ax wx h k hlo hhi hP hk K hK
              have e65 := hk.see 65 rfl rfl
              have e70 := hk.see 70 rfl rfl
              clear hk
              obtain rfl := hP.eq
              go_wp2_with fail
              all_goals first | exact hP | rfl
            case hst => exact fun h h' e => rfl
          exact trivial
        intro w' a' h hP HF
        obtain rfl := hP.eq
        refine sl_then (wp_cond_true (HF.at 71 rfl) (wp_seq (wp_region_lit ?_)))
        refine sl_const HF rfl rfl (.inr rfl) (by decide) ?_; clear HF; intro _ HF
        refine sl_nil (wp_ret ?_)
        try dsimp only [Exit.then, Exit.inBlock]
        exact HQ0.out HR.out _ _ (HF.keep [4]) HMOD.out.drew
      replace ekind := Decidable.not_not.1 ekind
      rw [← ekind] at b0
      by_cases en : ¬ (x.n = y.n)
      · have g1 : (x.n == y.n) = false := by simp [en]
        have g2 : (x.n != y.n) = true := by rw [bne, g1]; rfl
        have HR := Lib.hid (HDIFF.out (fun h => en (by rw [h])))
        clear en
        apply sl_flow5 (N := 0) [some 61, some 62, some 63, some 64, some 65, some 66, some 67, some 68, some 69, some 70, some 71] [.quiet 0 0, .quiet 0 0, .quiet 0 0, .quiet 0 0, .quiet 0 0, .quiet 0 0, .quiet 0 0, .quiet 0 0, .quiet 0 0, .quiet 0 0, .quiet 0 0] (PhEq w2.drew) [_, _, _, _, _, _, _, _, _, _, _] HF
        case hm => kernel_rfl
        case hok => kernel_rfl
        case hfl => rfl
        case h0 => exact (fun _ => ⟨rfl⟩)
        case hobs =>
          apply And.intro
          · apply ob_quiet
            case hg => rfl
            case hop =>
              intro ax wx h k hlo hhi hP hk K hK
              have e2 := hk.see 2 rfl rfl
              clear hk
              obtain rfl := hP.eq
              go_wp2_with fail
              all_goals first | exact hP | rfl
            case hst => exact fun h h' e => rfl
          apply And.intro
          · apply ob_quiet
            case hg => rfl
            case hop =>
              intro ax wx h k hlo hhi hP hk K hK
              have e61 := hk.see 61 rfl rfl
              clear hk
              obtain rfl := hP.eq
              go_wp2_with fail
              all_goals first | exact hP | rfl
            case hst => exact fun h h' e => rfl
          apply And.intro
          · apply ob_quiet
            case hg => rfl
            case hop =>
              intro ax wx h k hlo hhi hP hk K hK
              have e5 := hk.see 5 rfl rfl
              clear hk
              go_wp2_with fail
              all_goals first | exact hP | rfl
            case hst => exact fun h h' e => rfl
          apply And.intro
          · apply ob_quiet
            case hg => rfl
            case hop =>
              intro ax wx h k hlo hhi hP hk K hK
              have e62 := hk.see 62 rfl rfl
              have e63 := hk.see 63 rfl rfl
              clear hk
              obtain rfl := hP.eq
              go_wp2_with fail
              all_goals first | exact hP | rfl
            case hst => exact fun h h' e => rfl
          apply And.intro
          · apply ob_quiet
            case hg => rfl
            case hop =>
              intro ax wx h k hlo hhi hP hk K hK
              have e64 := hk.see 64 rfl rfl
              clear hk
              obtain rfl := hP.eq
              go_wp2_with fail
              all_goals first | exact hP | rfl
            case hst => exact fun h h' e => rfl
          apply And.intro
          · apply ob_quiet
            case hg => rfl
            case hop =>
              intro ax wx h k hlo hhi hP hk K hK
              have e3 := hk.see 3 rfl rfl
              clear hk
              obtain rfl := hP.eq
              go_wp2_with fail
              all_goals first | exact hP | rfl
            case hst => exact fun h h' e => rfl
          apply And.intro
          · apply ob_quiet
            case hg => rfl
            case hop =>
              intro ax wx h k hlo hhi hP hk K hK
              have e66 := hk.see 66 rfl rfl
              clear hk
              obtain rfl := hP.eq
              go_wp2_with fail
              all_goals first | exact hP | rfl
            case hst => exact fun h h' e => rfl
          apply And.intro
          · apply ob_quiet
            case hg => rfl
            case hop =>
              intro ax wx h k hlo hhi hP hk K hK
              have e5 := hk.see 5 rfl rfl
              clear hk
              go_wp2_with fail
              all_goals first | exact hP | rfl
            case hst => exact fun h h' e => rfl
          apply And.intro
          · apply ob_quiet
            case hg => rfl
            case hop =>
              intro ax wx h k hlo hhi hP hk K hK
              have e67 := hk.see 67 rfl rfl
              have e68 := hk.see 68 rfl rfl
              clear hk
              obtain rfl := hP.eq
              go_wp2_with fail
              all_goals first | exact hP | rfl
            case hst => exact fun h h' e => rfl
          apply And.intro
          · apply ob_quiet
            case hg => rfl
            case hop =>
              intro ax wx h k hlo hhi hP hk K hK
              have e69 := hk.see 69 rfl rfl
              clear hk
              obtain rfl := hP.eq
              go_wp2_with fail
              all_goals first | exact hP | rfl
            case hst => exact fun h h' e => rfl
          apply And.intro
          · apply ob_quiet
            case hg => rfl
            case hop =>
              intro ax wx h k hlo hhi hP hk K hK
              have e65 := hk.see 65 rfl rfl
              have e70 := hk.see 70 rfl rfl
              clear hk
              obtain rfl := hP.eq
              go_wp2_with fail
              all_goals first | exact hP | rfl
            case hst => exact fun h h' e => rfl
          exact trivial
        intro w' a' h hP HF
        obtain rfl := hP.eq
        refine sl_then (wp_cond_true (HF.at 71 rfl) (wp_seq (wp_region_lit ?_)))
        refine sl_const HF rfl rfl (.inr rfl) (by decide) ?_; clear HF; intro _ HF
        refine sl_nil (wp_ret ?_)
        try dsimp only [Exit.then, Exit.inBlock]
        exact HQ0.out HR.out _ _ (HF.keep [4]) HMOD.out.drew
      replace en := Decidable.not_not.1 en
      rw [← en] at b1
      by_cases etext : ¬ (x.text = y.text)
      · have g1 : ((str x.text).toList == (str y.text).toList) = false := by rw [cstr_toList, cstr_toList]; simp [etext]
        have g2 : ((str x.text).toList != (str y.text).toList) = true := by rw [bne, g1]; rfl
        have HR := Lib.hid (HDIFF.out (fun h => etext (by rw [h])))
        clear etext
        apply sl_flow5 (N := 0) [some 61, some 62, some 63, some 64, some 65, some 66, some 67, some 68, some 69, some 70, some 71] [.quiet 0 0, .quiet 0 0, .quiet 0 0, .quiet 0 0, .quiet 0 0, .quiet 0 0, .quiet 0 0, .quiet 0 0, .quiet 0 0, .quiet 0 0, .quiet 0 0] (PhEq w2.drew) [_, _, _, _, _, _, _, _, _, _, _] HF
        case hm => kernel_rfl
        case hok => kernel_rfl
        case hfl => rfl
        case h0 => exact (fun _ => ⟨rfl⟩)
        case hobs =>
          apply And.intro
          · apply ob_quiet
            case hg => rfl
            case hop =>
              intro ax wx h k hlo hhi hP hk K hK
              have e2 := hk.see 2 rfl rfl
              clear hk
              obtain rfl := hP.eq
              go_wp2_with fail
              all_goals first | exact hP | rfl
            case hst => exact fun h h' e => rfl
          apply And.intro
          · apply ob_quiet
            case hg => rfl
            case hop =>
              intro ax wx h k hlo hhi hP hk K hK
              have e61 := hk.see 61 rfl rfl
              clear hk
              obtain rfl := hP.eq
              go_wp2_with fail
              all_goals first | exact hP | rfl
            case hst => exact fun h h' e => rfl
          apply And.intro
          · apply ob_quiet
            case hg => rfl
            case hop =>
              intro ax wx h k hlo hhi hP hk K hK
              have e5 := hk.see 5 rfl rfl
              clear hk
              go_wp2_with fail
              all_goals first | exact hP | rfl
            case hst => exact fun h h' e => rfl
          apply And.intro
          · apply ob_quiet
            case hg => rfl
            case hop =>
              intro ax wx h k hlo hhi hP hk K hK
              have e62 := hk.see 62 rfl rfl
              have e63 := hk.see 63 rfl rfl
              clear hk
              obtain rfl := hP.eq
              go_wp2_with fail
              all_goals first | exact hP | rfl
            case hst => exact fun h h' e => rfl
          apply And.intro
          · apply ob_quiet
            case hg => rfl
            case hop =>
              intro ax wx h k hlo hhi hP hk K hK
              have e64 := hk.see 64 rfl rfl
              clear hk
              obtain rfl := hP.eq
              go_wp2_with fail
              all_goals first | exact hP | rfl
            case hst => exact fun h h' e => rfl
          apply And.intro
          · apply ob_quiet
            case hg => rfl
            case hop =>
              intro ax wx h k hlo hhi hP hk K hK
              have e3 := hk.see 3 rfl rfl
              clear hk
              obtain rfl := hP.eq
              go_wp2_with fail
              all_goals first | exact hP | rfl
            case hst => exact fun h h' e => rfl
          apply And.intro
          · apply ob_quiet
            case hg => rfl
            case hop =>
              intro ax wx h k hlo hhi hP hk K hK
              have e66 := hk.see 66 rfl rfl
              clear hk
              obtain rfl := hP.eq
              go_wp2_with fail
              all_goals first | exact hP | rfl
            case hst => exact fun h h' e => rfl
          apply And.intro
          · apply ob_quiet
            case hg => rfl
            case hop =>
              intro ax wx h k hlo hhi hP hk K hK
              have e5 := hk.see 5 rfl rfl
              clear hk
              go_wp2_with fail
              all_goals first | exact hP | rfl
            case hst => exact fun h h' e => rfl
          apply And.intro
          · apply ob_quiet
            case hg => rfl
            case hop =>
              intro ax wx h k hlo hhi hP hk K hK
              have e67 := hk.see 67 rfl rfl
              have e68 := hk.see 68 rfl rfl
              clear hk
              obtain rfl := hP.eq
              go_wp2_with fail
              all_goals first | exact hP | rfl
            case hst => exact fun h h' e => rfl
          apply And.intro
          · apply ob_quiet
            case hg => rfl
            case hop =>
              intro ax wx h k hlo hhi hP hk K hK
              have e69 := hk.see 69 rfl rfl
              clear hk
              obtain rfl := hP.eq
              go_wp2_with fail
              all_goals first | exact hP | rfl
            case hst => exact fun h h' e => rfl
          apply And.intro
          · apply ob_quiet
            case hg => rfl
            case hop =>
              intro ax wx h k hlo hhi hP hk K hK
              have e65 := hk.see 65 rfl rfl
              have e70 := hk.see 70 rfl rfl
              clear hk
              obtain rfl := hP.eq
              go_wp2_with fail
              all_goals first | exact hP | rfl
            case hst => exact fun h h' e => rfl
          exact trivial
        intro w' a' h hP HF
        obtain rfl := hP.eq
        refine sl_then (wp_cond_true (HF.at 71 rfl) (wp_seq (wp_region_lit ?_)))
        refine sl_const HF rfl rfl (.inr rfl) (by decide) ?_; clear HF; intro _ HF
        refine sl_nil (wp_ret ?_)
        try dsimp only [Exit.then, Exit.inBlock]
        exact HQ0.out HR.out _ _ (HF.keep [4]) HMOD.out.drew
      replace etext := Decidable.not_not.1 etext
      rw [← etext] at b2
      have gs : ((str x.text).toList == (str x.text).toList) = true := by simp
      have gs2 : ((str x.text).toList != (str x.text).toList) = false := by rw [bne, gs]; rfl
      have HXY := Lib.hid (show x = y by
        rcases x with ⟨x1, x2, x3⟩
        rcases y with ⟨y1, y2, y3⟩
        simp_all)
      clear ekind en etext
      apply sl_flow5 (N := 0) [some 61, some 62, some 63, some 64, some 65, some 66, some 67, some 68, some 69, some 70, some 71] [.quiet 0 0, .quiet 0 0, .quiet 0 0, .quiet 0 0, .quiet 0 0, .quiet 0 0, .quiet 0 0, .quiet 0 0, .quiet 0 0, .quiet 0 0, .quiet 0 0] (PhEq w2.drew) [_, _, _, _, _, _, _, _, _, _, _] HF
      case hm => kernel_rfl
      case hok => kernel_rfl
      case hfl => rfl
      case h0 => exact (fun _ => ⟨rfl⟩)
      case hobs =>
        apply And.intro
        · apply ob_quiet
          case hg => rfl
          case hop =>
            intro ax wx h k hlo hhi hP hk K hK
            have e2 := hk.see 2 rfl rfl
            clear hk
            obtain rfl := hP.eq
            go_wp2_with fail
            all_goals first | exact hP | rfl
          case hst => exact fun h h' e => rfl
        apply And.intro
        · apply ob_quiet
          case hg => rfl
          case hop =>
            intro ax wx h k hlo hhi hP hk K hK
            have e61 := hk.see 61 rfl rfl
            clear hk
            obtain rfl := hP.eq
            go_wp2_with fail
            all_goals first | exact hP | rfl
          case hst => exact fun h h' e => rfl
        apply And.intro
        · apply ob_quiet
          case hg => rfl
          case hop =>
            intro ax wx h k hlo hhi hP hk K hK
            have e5 := hk.see 5 rfl rfl
            clear hk
            go_wp2_with fail
            all_goals first | exact hP | rfl
          case hst => exact fun h h' e => rfl
        apply And.intro
        · apply ob_quiet
          case hg => rfl
          case hop =>
            intro ax wx h k hlo hhi hP hk K hK
            have e62 := hk.see 62 rfl rfl
            have e63 := hk.see 63 rfl rfl
            clear hk
            obtain rfl := hP.eq
            go_wp2_with fail
            all_goals first | exact hP | rfl
          case hst => exact fun h h' e => rfl
        apply And.intro
        · apply ob_quiet
          case hg => rfl
          case hop =>
            intro ax wx h k hlo hhi hP hk K hK
            have e64 := hk.see 64 rfl rfl
            clear hk
            obtain rfl := hP.eq
            go_wp2_with fail
            all_goals first | exact hP | rfl
          case hst => exact fun h h' e => rfl
        apply And.intro
        · apply ob_quiet
          case hg => rfl
          case hop =>
            intro ax wx h k hlo hhi hP hk K hK
            have e3 := hk.see 3 rfl rfl
            clear hk
            obtain rfl := hP.eq
            go_wp2_with fail
            all_goals first | exact hP | rfl
          case hst => exact fun h h' e => rfl
        apply And.intro
        · apply ob_quiet
          case hg => rfl
          case hop =>
            intro ax wx h k hlo hhi hP hk K hK
            have e66 := hk.see 66 rfl rfl
            clear hk
            obtain rfl := hP.eq
            go_wp2_with fail
            all_goals first | exact hP | rfl
          case hst => exact fun h h' e => rfl
        apply And.intro
        · apply ob_quiet
          case hg => rfl
          case hop =>
            intro ax wx h k hlo hhi hP hk K hK
            have e5 := hk.see 5 rfl rfl
            clear hk
            go_wp2_with fail
            all_goals first | exact hP | rfl
          case hst => exact fun h h' e => rfl
        apply And.intro
        · apply ob_quiet
          case hg => rfl
          case hop =>
            intro ax wx h k hlo hhi hP hk K hK
            have e67 := hk.see 67 rfl rfl
            have e68 := hk.see 68 rfl rfl
            clear hk
            obtain rfl := hP.eq
            go_wp2_with fail
            all_goals first | exact hP | rfl
          case hst => exact fun h h' e => rfl
        apply And.intro
        · apply ob_quiet
          case hg => rfl
          case hop =>
            intro ax wx h k hlo hhi hP hk K hK
            have e69 := hk.see 69 rfl rfl
            clear hk
            obtain rfl := hP.eq
            go_wp2_with fail
            all_goals first | exact hP | rfl
          case hst => exact fun h h' e => rfl
        apply And.intro
        · apply ob_quiet
          case hg => rfl
          case hop =>
            intro ax wx h k hlo hhi hP hk K hK
            have e65 := hk.see 65 rfl rfl
            have e70 := hk.see 70 rfl rfl
            clear hk
            obtain rfl := hP.eq
            go_wp2_with fail
            all_goals first | exact hP | rfl
          case hst => exact fun h h' e => rfl
        exact trivial
      intro w' a' h hP HF
      obtain rfl := hP.eq
      refine sl_then (wp_cond_false (HF.at 71 rfl) (wp_skip (sl_blk (wp_region_lit ?_))))
      refine sl_move HF rfl rfl (.inl rfl) (by decide) rfl ?_; clear HF; intro _ HF
      refine sl_op HF rfl rfl (by decide) ?_; intro K hK; have e59 := HF.see 59 rfl; go_wp2_with fail; clear e59 HF; intro _ HF
      refine sl_move HF rfl rfl (.inr rfl) (by decide) rfl ?_; clear HF; intro _ HF
      refine wpList_nil ?_
      refine ⟨⟨k + 1, ?_, by rw [← HN.out]; exact hlt, ?_, HMOD.out.drew⟩, ?_⟩
      · have := HF.keep [2, 3, 5]
        rw [show ((k + 1 : Nat) : Int) = (k : Int) + 1 by omega]
        exact this
      · rw [List.take_add_one, List.take_add_one, HEQ.out, HX.out, HY.out, HXY.out]
      · have e9 := HF.see 5 rfl
        try simp only [Act.eval_tmp]
        rw [HMU.out, e9]
        simp only [intOf]
        omega
    · have hge : decide ((k : Int) < n) = false := by simp; omega
      have HR := Lib.hid (show a.lits = b.lits by
        have h1 := HEQ.out
        rwa [List.take_of_length_le (by rw [← HN.out]; omega), List.take_of_length_le (by rw [← HLEN.out, ← HN.out]; omega)] at h1)
      refine wp_seq (wp_seq (wp_region_lit ?_))
      refine sl_move HF rfl rfl (.inl rfl) (by decide) rfl ?_; clear HF; intro _ HF
      refine sl_op HF rfl rfl (by decide) ?_; intro K hK; have e2 := HF.see 2 rfl; go_wp2_with fail; clear e2 HF; intro _ HF
      refine sl_op HF rfl rfl (by decide) ?_; intro K hK; have e55 := HF.see 55 rfl; go_wp2_with fail; clear e55 HF; intro _ HF
      refine sl_op HF rfl rfl (by decide) ?_; intro K hK; have e56 := HF.see 56 rfl; go_wp2_with fail; clear e56 HF; intro _ HF
      refine sl_op HF rfl rfl (by decide) ?_; intro K hK; have e54 := HF.see 54 rfl; have e57 := HF.see 57 rfl; go_wp2_with fail; clear e54 e57 HF; intro _ HF
      refine sl_nil (wp_cond_false (HF.at 58 rfl) (wp_exit ?_))
      dsimp only [Exit.then]
      exact sl_exit (HQ1.out HR.out _ _ (HF.keep [2, 3]) HMOD.out)

def RsinsI (w1 : World) (a b : CodeT) (ga gb : Nat) (ac : Act) (w : World) : Prop :=
  ∃ k : Nat, Sl 109 [(2, .pointer (some ⟨ga, 0, none⟩)), (3, .pointer (some ⟨gb, 0, none⟩)), (6, .int .i64 (k : Nat))] ac ∧ k ≤ a.ins.length ∧ a.ins.take k = b.ins.take k ∧ Mod Nil w1 w

set_option maxHeartbeats 6400000 in
set_option maxRecDepth 100000 in
/-- The loop over ins. -/
theorem rs_ins {Q : Exit → Act → World → Prop} {a b : CodeT} {va vb : CodeV} {ga gb : Nat} {w1 w : World} {ac : Act}
    (HF : Sl 109 [(2, .pointer (some ⟨ga, 0, none⟩)), (3, .pointer (some ⟨gb, 0, none⟩))] ac) (HA : Hid (Blk w1 ga 26 (codeArr a va))) (HB : Hid (Blk w1 gb 26 (codeArr b vb))) (HFA : Hid (∀ w', Mod Nil w1 w' → CodeF w' a va)) (HFB : Hid (∀ w', Mod Nil w1 w' → CodeF w' b vb))
    (hlen : a.ins.length = b.ins.length) (hm : Mod Nil w1 w)
    (hQ0 : a.ins ≠ b.ins → ∀ ac' w', Sl 109 [(4, .bool false)] ac' → Mod Nil w1 w' → Q .ret ac' w')
    (hQ1 : a.ins = b.ins → ∀ ac' w', Sl 109 [(2, .pointer (some ⟨ga, 0, none⟩)), (3, .pointer (some ⟨gb, 0, none⟩))] ac' → Mod Nil w1 w' → Q .normal ac' w') :
    (part [1, 1, 1, 0] rsBody).wp Tryd.prog Q ac w := by
  have HQ0 := Lib.hid hQ0
  have HQ1 := Lib.hid hQ1
  have HLEN := Lib.hid hlen
  have HM := Lib.hid hm
  have hst28 : Tryd.prog.stoodInHeld 33 = false := by kernel_rfl
  have heg28 : Tryd.prog.eqGuardType Tryd.prog.depth 33 = false := by kernel_rfl
  clear hQ0 hQ1 hlen hm
  obtain ⟨n, hn⟩ : ∃ n, n = a.ins.length := ⟨_, rfl⟩
  have HN := Lib.hid hn
  have hnb : n ≤ 9223372036854775807 := by
    have := (HFA.out w1 (Mod.refl _ _)).n3
    have := (HFA.out w1 (Mod.refl _ _)).m3
    omega
  clear hn
  conv => arg 2; whnf
  refine wp_seq (wp_region_lit ?_)
  refine sl_const HF rfl rfl (.inr rfl) (by decide) ?_; clear HF; intro _ HF
  refine sl_nil (wp_block (wp_loop (RsinsI w1 a b ga gb) (fun ac _ => n - (intOf (ac.eval (.tmp 6))).toNat) ?_ ?_))
  · exact ⟨0, HF.keep [2, 3, 6], Nat.zero_le _, rfl, HM.out⟩
  · clear HF
    rintro ac2 w2 ⟨k, HF, hk, heq, hmod⟩
    have hmu : n - (intOf ((ac2.tmps[6]?).getD undef)).toNat = n - k := by rw [HF.see 6 rfl]; simp [intOf]
    have HMU := Lib.hid hmu
    have HEQ := Lib.hid heq
    have HMOD := Lib.hid hmod
    rw [← HN.out] at hk
    have ka := (code_boxed (HA.out.keep hmod id)).2.2.2.1
    have kb := (code_boxed (HB.out.keep hmod id)).2.2.2.1
    rw [← HLEN.out, ← HN.out] at kb
    rw [← HN.out] at ka
    have hcap : n ≤ va.c3 := by have := (HFA.out w1 (Mod.refl _ _)).n3; rw [← HN.out] at this; exact this
    have hcapb : n ≤ vb.c3 := by have := (HFB.out w1 (Mod.refl _ _)).n3; rw [← HLEN.out, ← HN.out] at this; exact this
    clear hmu heq hmod
    by_cases hlt : k < n
    · have hlt' : decide ((k : Int) < n) = true := by simp; omega
      obtain ⟨x, hx⟩ : ∃ x, a.ins[k]? = some x := ⟨_, List.getElem?_eq_getElem (by rw [← HN.out]; exact hlt)⟩
      obtain ⟨y, hy⟩ : ∃ y, b.ins[k]? = some y := ⟨_, List.getElem?_eq_getElem (by rw [← HLEN.out, ← HN.out]; exact hlt)⟩
      obtain ⟨ad, hAd, hab, a0, a1, a2⟩ := eqIns_at (HFA.out w2 HMOD.out).r3 hx
      obtain ⟨bd, hBd, hbb, b0, b1, b2⟩ := eqIns_at (HFB.out w2 HMOD.out).r3 hy
      rw [hAd] at ka
      rw [hBd] at kb
      have HX := Lib.hid hx
      have HY := Lib.hid hy
      have HDIFF := Lib.hid (show x ≠ y → a.ins ≠ b.ins from fun h he => by
        rw [he] at hx
        rw [hx] at hy
        cases hy
        exact h rfl)
      clear hx hy hAd hBd
      refine wp_seq (wp_seq (wp_region_lit ?_))
      refine sl_move HF rfl rfl (.inl rfl) (by decide) rfl ?_; clear HF; intro _ HF
      refine sl_op HF rfl rfl (by decide) ?_; intro K hK; have e2 := HF.see 2 rfl; go_wp2_with fail; clear e2 HF; intro _ HF
      refine sl_op HF rfl rfl (by decide) ?_; intro K hK; have e73 := HF.see 73 rfl; go_wp2_with fail; clear e73 HF; intro _ HF
      refine sl_op HF rfl rfl (by decide) ?_; intro K hK; have e74 := HF.see 74 rfl; go_wp2_with fail; clear e74 HF; intro _ HF
      refine sl_op HF rfl rfl (by decide) ?_; intro K hK; have e72 := HF.see 72 rfl; have e75 := HF.see 75 rfl; go_wp2_with fail; clear e72 e75 HF; intro _ HF
      refine sl_nil (wp_cond_true (HF.at 76 rfl) (wp_skip (sl_then (wp_seq (wp_block (wp_seq ?_))))))

      by_cases eop : ¬ (x.op = y.op)
      · have g1 : (x.op == y.op) = false := by simp [eop]
        have g2 : (x.op != y.op) = true := by rw [bne, g1]; rfl
        have HR := Lib.hid (HDIFF.out (fun h => eop (by rw [h])))
        clear eop
        apply sl_flow5 (N := 0) [some 79, some 80, some 81, some 82, some 83, some 84, some 85, some 86, some 87, some 88, some 89] [.quiet 0 0, .quiet 0 0, .quiet 0 0, .quiet 0 0, .quiet 0 0, .quiet 0 0, .quiet 0 0, .quiet 0 0, .quiet 0 0, .quiet 0 0, .quiet 0 0] (PhEq w2.drew) [_, _, _, _, _, _, _, _, _, _, _] HF
        case hm => kernel_rfl
        case hok => kernel_rfl
        case hfl => rfl
        case h0 => exact (fun _ => ⟨rfl⟩)
        case hobs =>
          apply And.intro
          · apply ob_quiet
            case hg => rfl
            case hop =>
              intro ax wx h k hlo hhi hP hk K hK
              have e2 := hk.see 2 rfl rfl
              clear hk
              obtain rfl := hP.eq
              go_wp2_with fail
              all_goals first | exact hP | rfl
            case hst => exact fun h h' e => rfl
          apply And.intro
          · apply ob_quiet
            case hg => rfl
            case hop =>
              intro ax wx h k hlo hhi hP hk K hK
              have e79 := hk.see 79 rfl rfl
              clear hk
              obtain rfl := hP.eq
              go_wp2_with fail
              all_goals first | exact hP | rfl
            case hst => exact fun h h' e => rfl
          apply And.intro
          · apply ob_quiet
            case hg => rfl
            case hop =>
              intro ax wx h k hlo hhi hP hk K hK
              have e6 := hk.see 6 rfl rfl
              clear hk
              go_wp2_with fail
              all_goals first | exact hP | rfl
            case hst => exact fun h h' e => rfl
          apply And.intro
          · apply ob_quiet
            case hg => rfl
            case hop =>
              intro ax wx h k hlo hhi hP hk K hK
              have e80 := hk.see 80 rfl rfl
              have e81 := hk.see 81 rfl rfl
              clear hk
              obtain rfl := hP.eq
              go_wp2_with fail
              all_goals first | exact hP | rfl
            case hst => exact fun h h' e => rfl
          apply And.intro
          · apply ob_quiet
            case hg => rfl
            case hop =>
              intro ax wx h k hlo hhi hP hk K hK
              have e82 := hk.see 82 rfl rfl
              clear hk
              obtain rfl := hP.eq
              go_wp2_with fail
              all_goals first | exact hP | rfl
            case hst => exact fun h h' e => rfl
          apply And.intro
          · apply ob_quiet
            case hg => rfl
            case hop =>
              intro ax wx h k hlo hhi hP hk K hK
              have e3 := hk.see 3 rfl rfl
              clear hk
              obtain rfl := hP.eq
              go_wp2_with fail
              all_goals first | exact hP | rfl
            case hst => exact fun h h' e => rfl
          apply And.intro
          · apply ob_quiet
            case hg => rfl
            case hop =>
              intro ax wx h k hlo hhi hP hk K hK
              have e84 := hk.see 84 rfl rfl
              clear hk
              obtain rfl := hP.eq
              go_wp2_with fail
              all_goals first | exact hP | rfl
            case hst => exact fun h h' e => rfl
          apply And.intro
          · apply ob_quiet
            case hg => rfl
            case hop =>
              intro ax wx h k hlo hhi hP hk K hK
              have e6 := hk.see 6 rfl rfl
              clear hk
              go_wp2_with fail
              all_goals first | exact hP | rfl
            case hst => exact fun h h' e => rfl
          apply And.intro
          · apply ob_quiet
            case hg => rfl
            case hop =>
              intro ax wx h k hlo hhi hP hk K hK
              have e85 := hk.see 85 rfl rfl
              have e86 := hk.see 86 rfl rfl
              clear hk
              obtain rfl := hP.eq
              go_wp2_with fail
              all_goals first | exact hP | rfl
            case hst => exact fun h h' e => rfl
          apply And.intro
          · apply ob_quiet
            case hg => rfl
            case hop =>
              intro ax wx h k hlo hhi hP hk K hK
              have e87 := hk.see 87 rfl rfl
              clear hk
              obtain rfl := hP.eq
              go_wp2_with fail
              all_goals first | exact hP | rfl
            case hst => exact fun h h' e => rfl
          apply And.intro
          · apply ob_quiet
            case hg => rfl
            case hop =>
              intro ax wx h k hlo hhi hP hk K hK
              have e83 := hk.see 83 rfl rfl
              have e88 := hk.see 88 rfl rfl
              clear hk
              obtain rfl := hP.eq
              go_wp2_with fail
              all_goals first | exact hP | rfl
            case hst => exact fun h h' e => rfl
          exact trivial
        intro w' a' h hP HF
        obtain rfl := hP.eq
        refine sl_then (wp_cond_true (HF.at 89 rfl) (wp_seq (wp_region_lit ?_)))
        refine sl_const HF rfl rfl (.inr rfl) (by decide) ?_; clear HF; intro _ HF
        refine sl_nil (wp_ret ?_)
        try dsimp only [Exit.then, Exit.inBlock]
        exact HQ0.out HR.out _ _ (HF.keep [4]) HMOD.out.drew
      replace eop := Decidable.not_not.1 eop
      rw [← eop] at b0
      by_cases ea : ¬ (x.a = y.a)
      · have g1 : (x.a == y.a) = false := by simp [ea]
        have g2 : (x.a != y.a) = true := by rw [bne, g1]; rfl
        have HR := Lib.hid (HDIFF.out (fun h => ea (by rw [h])))
        clear ea
        apply sl_flow5 (N := 0) [some 79, some 80, some 81, some 82, some 83, some 84, some 85, some 86, some 87, some 88, some 89] [.quiet 0 0, .quiet 0 0, .quiet 0 0, .quiet 0 0, .quiet 0 0, .quiet 0 0, .quiet 0 0, .quiet 0 0, .quiet 0 0, .quiet 0 0, .quiet 0 0] (PhEq w2.drew) [_, _, _, _, _, _, _, _, _, _, _] HF
        case hm => kernel_rfl
        case hok => kernel_rfl
        case hfl => rfl
        case h0 => exact (fun _ => ⟨rfl⟩)
        case hobs =>
          apply And.intro
          · apply ob_quiet
            case hg => rfl
            case hop =>
              intro ax wx h k hlo hhi hP hk K hK
              have e2 := hk.see 2 rfl rfl
              clear hk
              obtain rfl := hP.eq
              go_wp2_with fail
              all_goals first | exact hP | rfl
            case hst => exact fun h h' e => rfl
          apply And.intro
          · apply ob_quiet
            case hg => rfl
            case hop =>
              intro ax wx h k hlo hhi hP hk K hK
              have e79 := hk.see 79 rfl rfl
              clear hk
              obtain rfl := hP.eq
              go_wp2_with fail
              all_goals first | exact hP | rfl
            case hst => exact fun h h' e => rfl
          apply And.intro
          · apply ob_quiet
            case hg => rfl
            case hop =>
              intro ax wx h k hlo hhi hP hk K hK
              have e6 := hk.see 6 rfl rfl
              clear hk
              go_wp2_with fail
              all_goals first | exact hP | rfl
            case hst => exact fun h h' e => rfl
          apply And.intro
          · apply ob_quiet
            case hg => rfl
            case hop =>
              intro ax wx h k hlo hhi hP hk K hK
              have e80 := hk.see 80 rfl rfl
              have e81 := hk.see 81 rfl rfl
              clear hk
              obtain rfl := hP.eq
              go_wp2_with fail
              all_goals first | exact hP | rfl
            case hst => exact fun h h' e => rfl
          apply And.intro
          · apply ob_quiet
            case hg => rfl
            case hop =>
              intro ax wx h k hlo hhi hP hk K hK
              have e82 := hk.see 82 rfl rfl
              clear hk
              obtain rfl := hP.eq
              go_wp2_with fail
              all_goals first | exact hP | rfl
            case hst => exact fun h h' e => rfl
          apply And.intro
          · apply ob_quiet
            case hg => rfl
            case hop =>
              intro ax wx h k hlo hhi hP hk K hK
              have e3 := hk.see 3 rfl rfl
              clear hk
              obtain rfl := hP.eq
              go_wp2_with fail
              all_goals first | exact hP | rfl
            case hst => exact fun h h' e => rfl
          apply And.intro
          · apply ob_quiet
            case hg => rfl
            case hop =>
              intro ax wx h k hlo hhi hP hk K hK
              have e84 := hk.see 84 rfl rfl
              clear hk
              obtain rfl := hP.eq
              go_wp2_with fail
              all_goals first | exact hP | rfl
            case hst => exact fun h h' e => rfl
          apply And.intro
          · apply ob_quiet
            case hg => rfl
            case hop =>
              intro ax wx h k hlo hhi hP hk K hK
              have e6 := hk.see 6 rfl rfl
              clear hk
              go_wp2_with fail
              all_goals first | exact hP | rfl
            case hst => exact fun h h' e => rfl
          apply And.intro
          · apply ob_quiet
            case hg => rfl
            case hop =>
              intro ax wx h k hlo hhi hP hk K hK
              have e85 := hk.see 85 rfl rfl
              have e86 := hk.see 86 rfl rfl
              clear hk
              obtain rfl := hP.eq
              go_wp2_with fail
              all_goals first | exact hP | rfl
            case hst => exact fun h h' e => rfl
          apply And.intro
          · apply ob_quiet
            case hg => rfl
            case hop =>
              intro ax wx h k hlo hhi hP hk K hK
              have e87 := hk.see 87 rfl rfl
              clear hk
              obtain rfl := hP.eq
              go_wp2_with fail
              all_goals first | exact hP | rfl
            case hst => exact fun h h' e => rfl
          apply And.intro
          · apply ob_quiet
            case hg => rfl
            case hop =>
              intro ax wx h k hlo hhi hP hk K hK
              have e83 := hk.see 83 rfl rfl
              have e88 := hk.see 88 rfl rfl
              clear hk
              obtain rfl := hP.eq
              go_wp2_with fail
              all_goals first | exact hP | rfl
            case hst => exact fun h h' e => rfl
          exact trivial
        intro w' a' h hP HF
        obtain rfl := hP.eq
        refine sl_then (wp_cond_true (HF.at 89 rfl) (wp_seq (wp_region_lit ?_)))
        refine sl_const HF rfl rfl (.inr rfl) (by decide) ?_; clear HF; intro _ HF
        refine sl_nil (wp_ret ?_)
        try dsimp only [Exit.then, Exit.inBlock]
        exact HQ0.out HR.out _ _ (HF.keep [4]) HMOD.out.drew
      replace ea := Decidable.not_not.1 ea
      rw [← ea] at b1
      by_cases eb : ¬ (x.b = y.b)
      · have g1 : (x.b == y.b) = false := by simp [eb]
        have g2 : (x.b != y.b) = true := by rw [bne, g1]; rfl
        have HR := Lib.hid (HDIFF.out (fun h => eb (by rw [h])))
        clear eb
        apply sl_flow5 (N := 0) [some 79, some 80, some 81, some 82, some 83, some 84, some 85, some 86, some 87, some 88, some 89] [.quiet 0 0, .quiet 0 0, .quiet 0 0, .quiet 0 0, .quiet 0 0, .quiet 0 0, .quiet 0 0, .quiet 0 0, .quiet 0 0, .quiet 0 0, .quiet 0 0] (PhEq w2.drew) [_, _, _, _, _, _, _, _, _, _, _] HF
        case hm => kernel_rfl
        case hok => kernel_rfl
        case hfl => rfl
        case h0 => exact (fun _ => ⟨rfl⟩)
        case hobs =>
          apply And.intro
          · apply ob_quiet
            case hg => rfl
            case hop =>
              intro ax wx h k hlo hhi hP hk K hK
              have e2 := hk.see 2 rfl rfl
              clear hk
              obtain rfl := hP.eq
              go_wp2_with fail
              all_goals first | exact hP | rfl
            case hst => exact fun h h' e => rfl
          apply And.intro
          · apply ob_quiet
            case hg => rfl
            case hop =>
              intro ax wx h k hlo hhi hP hk K hK
              have e79 := hk.see 79 rfl rfl
              clear hk
              obtain rfl := hP.eq
              go_wp2_with fail
              all_goals first | exact hP | rfl
            case hst => exact fun h h' e => rfl
          apply And.intro
          · apply ob_quiet
            case hg => rfl
            case hop =>
              intro ax wx h k hlo hhi hP hk K hK
              have e6 := hk.see 6 rfl rfl
              clear hk
              go_wp2_with fail
              all_goals first | exact hP | rfl
            case hst => exact fun h h' e => rfl
          apply And.intro
          · apply ob_quiet
            case hg => rfl
            case hop =>
              intro ax wx h k hlo hhi hP hk K hK
              have e80 := hk.see 80 rfl rfl
              have e81 := hk.see 81 rfl rfl
              clear hk
              obtain rfl := hP.eq
              go_wp2_with fail
              all_goals first | exact hP | rfl
            case hst => exact fun h h' e => rfl
          apply And.intro
          · apply ob_quiet
            case hg => rfl
            case hop =>
              intro ax wx h k hlo hhi hP hk K hK
              have e82 := hk.see 82 rfl rfl
              clear hk
              obtain rfl := hP.eq
              go_wp2_with fail
              all_goals first | exact hP | rfl
            case hst => exact fun h h' e => rfl
          apply And.intro
          · apply ob_quiet
            case hg => rfl
            case hop =>
              intro ax wx h k hlo hhi hP hk K hK
              have e3 := hk.see 3 rfl rfl
              clear hk
              obtain rfl := hP.eq
              go_wp2_with fail
              all_goals first | exact hP | rfl
            case hst => exact fun h h' e => rfl
          apply And.intro
          · apply ob_quiet
            case hg => rfl
            case hop =>
              intro ax wx h k hlo hhi hP hk K hK
              have e84 := hk.see 84 rfl rfl
              clear hk
              obtain rfl := hP.eq
              go_wp2_with fail
              all_goals first | exact hP | rfl
            case hst => exact fun h h' e => rfl
          apply And.intro
          · apply ob_quiet
            case hg => rfl
            case hop =>
              intro ax wx h k hlo hhi hP hk K hK
              have e6 := hk.see 6 rfl rfl
              clear hk
              go_wp2_with fail
              all_goals first | exact hP | rfl
            case hst => exact fun h h' e => rfl
          apply And.intro
          · apply ob_quiet
            case hg => rfl
            case hop =>
              intro ax wx h k hlo hhi hP hk K hK
              have e85 := hk.see 85 rfl rfl
              have e86 := hk.see 86 rfl rfl
              clear hk
              obtain rfl := hP.eq
              go_wp2_with fail
              all_goals first | exact hP | rfl
            case hst => exact fun h h' e => rfl
          apply And.intro
          · apply ob_quiet
            case hg => rfl
            case hop =>
              intro ax wx h k hlo hhi hP hk K hK
              have e87 := hk.see 87 rfl rfl
              clear hk
              obtain rfl := hP.eq
              go_wp2_with fail
              all_goals first | exact hP | rfl
            case hst => exact fun h h' e => rfl
          apply And.intro
          · apply ob_quiet
            case hg => rfl
            case hop =>
              intro ax wx h k hlo hhi hP hk K hK
              have e83 := hk.see 83 rfl rfl
              have e88 := hk.see 88 rfl rfl
              clear hk
              obtain rfl := hP.eq
              go_wp2_with fail
              all_goals first | exact hP | rfl
            case hst => exact fun h h' e => rfl
          exact trivial
        intro w' a' h hP HF
        obtain rfl := hP.eq
        refine sl_then (wp_cond_true (HF.at 89 rfl) (wp_seq (wp_region_lit ?_)))
        refine sl_const HF rfl rfl (.inr rfl) (by decide) ?_; clear HF; intro _ HF
        refine sl_nil (wp_ret ?_)
        try dsimp only [Exit.then, Exit.inBlock]
        exact HQ0.out HR.out _ _ (HF.keep [4]) HMOD.out.drew
      replace eb := Decidable.not_not.1 eb
      rw [← eb] at b2
      have HXY := Lib.hid (show x = y by
        rcases x with ⟨x1, x2, x3⟩
        rcases y with ⟨y1, y2, y3⟩
        simp_all)
      clear eop ea eb
      apply sl_flow5 (N := 0) [some 79, some 80, some 81, some 82, some 83, some 84, some 85, some 86, some 87, some 88, some 89] [.quiet 0 0, .quiet 0 0, .quiet 0 0, .quiet 0 0, .quiet 0 0, .quiet 0 0, .quiet 0 0, .quiet 0 0, .quiet 0 0, .quiet 0 0, .quiet 0 0] (PhEq w2.drew) [_, _, _, _, _, _, _, _, _, _, _] HF
      case hm => kernel_rfl
      case hok => kernel_rfl
      case hfl => rfl
      case h0 => exact (fun _ => ⟨rfl⟩)
      case hobs =>
        apply And.intro
        · apply ob_quiet
          case hg => rfl
          case hop =>
            intro ax wx h k hlo hhi hP hk K hK
            have e2 := hk.see 2 rfl rfl
            clear hk
            obtain rfl := hP.eq
            go_wp2_with fail
            all_goals first | exact hP | rfl
          case hst => exact fun h h' e => rfl
        apply And.intro
        · apply ob_quiet
          case hg => rfl
          case hop =>
            intro ax wx h k hlo hhi hP hk K hK
            have e79 := hk.see 79 rfl rfl
            clear hk
            obtain rfl := hP.eq
            go_wp2_with fail
            all_goals first | exact hP | rfl
          case hst => exact fun h h' e => rfl
        apply And.intro
        · apply ob_quiet
          case hg => rfl
          case hop =>
            intro ax wx h k hlo hhi hP hk K hK
            have e6 := hk.see 6 rfl rfl
            clear hk
            go_wp2_with fail
            all_goals first | exact hP | rfl
          case hst => exact fun h h' e => rfl
        apply And.intro
        · apply ob_quiet
          case hg => rfl
          case hop =>
            intro ax wx h k hlo hhi hP hk K hK
            have e80 := hk.see 80 rfl rfl
            have e81 := hk.see 81 rfl rfl
            clear hk
            obtain rfl := hP.eq
            go_wp2_with fail
            all_goals first | exact hP | rfl
          case hst => exact fun h h' e => rfl
        apply And.intro
        · apply ob_quiet
          case hg => rfl
          case hop =>
            intro ax wx h k hlo hhi hP hk K hK
            have e82 := hk.see 82 rfl rfl
            clear hk
            obtain rfl := hP.eq
            go_wp2_with fail
            all_goals first | exact hP | rfl
          case hst => exact fun h h' e => rfl
        apply And.intro
        · apply ob_quiet
          case hg => rfl
          case hop =>
            intro ax wx h k hlo hhi hP hk K hK
            have e3 := hk.see 3 rfl rfl
            clear hk
            obtain rfl := hP.eq
            go_wp2_with fail
            all_goals first | exact hP | rfl
          case hst => exact fun h h' e => rfl
        apply And.intro
        · apply ob_quiet
          case hg => rfl
          case hop =>
            intro ax wx h k hlo hhi hP hk K hK
            have e84 := hk.see 84 rfl rfl
            clear hk
            obtain rfl := hP.eq
            go_wp2_with fail
            all_goals first | exact hP | rfl
          case hst => exact fun h h' e => rfl
        apply And.intro
        · apply ob_quiet
          case hg => rfl
          case hop =>
            intro ax wx h k hlo hhi hP hk K hK
            have e6 := hk.see 6 rfl rfl
            clear hk
            go_wp2_with fail
            all_goals first | exact hP | rfl
          case hst => exact fun h h' e => rfl
        apply And.intro
        · apply ob_quiet
          case hg => rfl
          case hop =>
            intro ax wx h k hlo hhi hP hk K hK
            have e85 := hk.see 85 rfl rfl
            have e86 := hk.see 86 rfl rfl
            clear hk
            obtain rfl := hP.eq
            go_wp2_with fail
            all_goals first | exact hP | rfl
          case hst => exact fun h h' e => rfl
        apply And.intro
        · apply ob_quiet
          case hg => rfl
          case hop =>
            intro ax wx h k hlo hhi hP hk K hK
            have e87 := hk.see 87 rfl rfl
            clear hk
            obtain rfl := hP.eq
            go_wp2_with fail
            all_goals first | exact hP | rfl
          case hst => exact fun h h' e => rfl
        apply And.intro
        · apply ob_quiet
          case hg => rfl
          case hop =>
            intro ax wx h k hlo hhi hP hk K hK
            have e83 := hk.see 83 rfl rfl
            have e88 := hk.see 88 rfl rfl
            clear hk
            obtain rfl := hP.eq
            go_wp2_with fail
            all_goals first | exact hP | rfl
          case hst => exact fun h h' e => rfl
        exact trivial
      intro w' a' h hP HF
      obtain rfl := hP.eq
      refine sl_then (wp_cond_false (HF.at 89 rfl) (wp_skip (sl_blk (wp_region_lit ?_))))
      refine sl_move HF rfl rfl (.inl rfl) (by decide) rfl ?_; clear HF; intro _ HF
      refine sl_op HF rfl rfl (by decide) ?_; intro K hK; have e77 := HF.see 77 rfl; go_wp2_with fail; clear e77 HF; intro _ HF
      refine sl_move HF rfl rfl (.inr rfl) (by decide) rfl ?_; clear HF; intro _ HF
      refine wpList_nil ?_
      refine ⟨⟨k + 1, ?_, by rw [← HN.out]; exact hlt, ?_, HMOD.out.drew⟩, ?_⟩
      · have := HF.keep [2, 3, 6]
        rw [show ((k + 1 : Nat) : Int) = (k : Int) + 1 by omega]
        exact this
      · rw [List.take_add_one, List.take_add_one, HEQ.out, HX.out, HY.out, HXY.out]
      · have e9 := HF.see 6 rfl
        try simp only [Act.eval_tmp]
        rw [HMU.out, e9]
        simp only [intOf]
        omega
    · have hge : decide ((k : Int) < n) = false := by simp; omega
      have HR := Lib.hid (show a.ins = b.ins by
        have h1 := HEQ.out
        rwa [List.take_of_length_le (by rw [← HN.out]; omega), List.take_of_length_le (by rw [← HLEN.out, ← HN.out]; omega)] at h1)
      refine wp_seq (wp_seq (wp_region_lit ?_))
      refine sl_move HF rfl rfl (.inl rfl) (by decide) rfl ?_; clear HF; intro _ HF
      refine sl_op HF rfl rfl (by decide) ?_; intro K hK; have e2 := HF.see 2 rfl; go_wp2_with fail; clear e2 HF; intro _ HF
      refine sl_op HF rfl rfl (by decide) ?_; intro K hK; have e73 := HF.see 73 rfl; go_wp2_with fail; clear e73 HF; intro _ HF
      refine sl_op HF rfl rfl (by decide) ?_; intro K hK; have e74 := HF.see 74 rfl; go_wp2_with fail; clear e74 HF; intro _ HF
      refine sl_op HF rfl rfl (by decide) ?_; intro K hK; have e72 := HF.see 72 rfl; have e75 := HF.see 75 rfl; go_wp2_with fail; clear e72 e75 HF; intro _ HF
      refine sl_nil (wp_cond_false (HF.at 76 rfl) (wp_exit ?_))
      dsimp only [Exit.then]
      exact sl_exit (HQ1.out HR.out _ _ (HF.keep [2, 3]) HMOD.out)
end Go.Proofs.YtefloadjolpgbaaDoor
