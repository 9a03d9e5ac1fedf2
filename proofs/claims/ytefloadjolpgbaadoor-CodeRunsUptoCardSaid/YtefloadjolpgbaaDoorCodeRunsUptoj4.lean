/- Parts of the proof of CodeRunsUpto, joined: CodE CodV PhSt. -/
import Derived.Test.YtefloadjolpgbaaDoorCodeRunsUptoj3
import Derived.Laws.StructEq
namespace Go.Proofs.YtefloadjolpgbaaDoor
open Go.RowKit

theorem cstr_toList (l : List UInt8) : (str l).toList = l := by rw [ByteArray.toList_eq, str_list]
theorem flat3_at {α : Type} {w : World} {A : Option Addr} {f : α → List Value} {xs : List α} (h : Rd All w A (xs.flatMap f)) (h3 : ∀ x, (f x).length = 3) {i : Nat} {x : α} (hx : xs[i]? = some x) :
    ∃ ad, A = some ad ∧ ad.block < w.heap.size ∧ ∀ (j : Nat) (u : Value), (f x)[j]? = some u → w.cell? (ad.add (i * 3 + j)) = some u := by
  have flat : ∀ (xs : List α) (i : Nat) (x : α), xs[i]? = some x → ∀ (j : Nat) (u : Value), (f x)[j]? = some u → (xs.flatMap f)[i * 3 + j]? = some u := by
    intro xs
    induction xs with
    | nil => intro i x h; simp at h
    | cons y xs ih =>
      intro i x hx j u hu
      have hy := h3 y
      rw [List.flatMap_cons]
      cases i with
      | zero =>
        cases hx
        have := (List.getElem?_eq_some_iff.1 hu).1
        rw [List.getElem?_append_left (by omega), Nat.zero_mul, Nat.zero_add]
        exact hu
      | succ i =>
        rw [List.getElem?_append_right (by omega), hy, show (i + 1) * 3 + j - 3 = i * 3 + j by omega]
        exact ih i x hx j u hu
  obtain ⟨v, hv⟩ : ∃ v, (f x)[0]? = some v := ⟨_, List.getElem?_eq_getElem (by rw [h3]; decide)⟩
  have h0 := flat xs i x hx 0 v hv
  have hpos : 0 < (xs.flatMap f).length := by have := (List.getElem?_eq_some_iff.1 h0).1; omega
  obtain ⟨ad, e1, _, e2, e3⟩ := h hpos
  exact ⟨ad, e1, e2, fun j u hu => e3 _ u (flat xs i x hx j u hu)⟩

noncomputable def eqLitBody : Code := (Tryd.f25.body).getD .skip
theorem eqLit_at {w : World} {A : Option Addr} {xs : List LitT} (h : Rd All w A (xs.flatMap litC)) {i : Nat} {x : LitT} (hx : xs[i]? = some x) :
    ∃ ad, A = some ad ∧ ad.block < w.heap.size ∧ w.cell? (ad.add (i * 3)) = some (.int .i64 x.kind) ∧ w.cell? ⟨(ad.add (i * 3)).block, (ad.add (i * 3)).off + 1, none⟩ = some (.int .i64 x.n) ∧ w.cell? ⟨(ad.add (i * 3)).block, (ad.add (i * 3)).off + 2, none⟩ = some (.string (str x.text)) := by
  obtain ⟨ad, e1, e2, hc⟩ := flat3_at h (fun x => rfl) hx
  refine ⟨ad, e1, e2, hc 0 _ rfl, ?_, ?_⟩
  · rw [← add_posn ad (i * 3) 0]; exact hc 1 _ rfl
  · rw [← add_posn ad (i * 3) 1]; exact hc 2 _ rfl

def eqLitI (w0 : World) (A B : Option Addr) (n cA cB : Nat) (xs ys : List LitT) (ac : Act) (w : World) : Prop :=
  ∃ k : Nat, Sl 26 [(0, .slice A n cA), (1, .slice B n cB), (12, .int .i64 n), (13, .int .i64 (k : Nat))] ac ∧ k ≤ n ∧ xs.take k = ys.take k ∧ Mod Nil w0 w

set_option maxHeartbeats 3200000 in
set_option maxRecDepth 100000 in
theorem eqLit_any (A B : Option Addr) (n m cA cB : Nat) (xs ys : List LitT) (w : World) (hn : xs.length = n) (hm : ys.length = m) (hbn : n ≤ 9223372036854775807) (hbm : m ≤ 9223372036854775807)
    (hA : Rd All w A (xs.flatMap litC)) (hB : Rd All w B (ys.flatMap litC)) :
    Calls Tryd.prog 25 #[.slice A n cA, .slice B m cB] w fun e w' => e = .returned (.bool (decide (xs = ys))) ∧ Mod Nil w w' := by
  have HA := Lib.hid hA
  have HB := Lib.hid hB
  have HN := Lib.hid hn
  have HM := Lib.hid hm
  have hst28 : Tryd.prog.stoodInHeld 45 = false := by kernel_rfl
  have heg28 : Tryd.prog.eqGuardType Tryd.prog.depth 45 = false := by kernel_rfl
  clear hA hB hn hm
  refine sl_enter (n := 26) (fn := Tryd.f25) (c := eqLitBody) Tryd.func25 rfl rfl (by simp) fun ac HF => ?_
  conv => arg 2; whnf
  refine wp_seq (wp_region_lit ?_)
  refine sl_const HF rfl rfl (.inr rfl) (by decide) ?_; clear HF; intro _ HF
  refine sl_nil (wp_seq (wp_seq (wp_region_lit ?_)))
  by_cases hnm : n = m
  · subst hnm
    refine sl_move HF rfl rfl (.inl rfl) (by decide) rfl ?_; clear HF; intro _ HF
    refine sl_op HF rfl rfl (by decide) ?_; intro K hK; have e6 := HF.see 6 rfl; go_wp2_with fail; clear e6 HF; intro _ HF
    refine sl_move HF rfl rfl (.inl rfl) (by decide) rfl ?_; clear HF; intro _ HF
    refine sl_op HF rfl rfl (by decide) ?_; intro K hK; have e8 := HF.see 8 rfl; go_wp2_with fail; clear e8 HF; intro _ HF
    refine sl_op HF rfl rfl (by decide) ?_; intro K hK; have e7 := HF.see 7 rfl; have e9 := HF.see 9 rfl; go_wp2_with fail; clear e7 e9 HF; intro _ HF
    refine sl_nil (wp_cond_false (HF.at 10 rfl) (wp_skip (sl_then (wp_seq (wp_seq (wp_region_lit ?_))))))
    refine sl_move HF rfl rfl (.inl rfl) (by decide) rfl ?_; clear HF; intro _ HF
    refine sl_op HF rfl rfl (by decide) ?_; intro K hK; have e11 := HF.see 11 rfl; go_wp2_with fail; clear e11 HF; intro _ HF
    refine sl_const HF rfl rfl (.inl rfl) (by decide) ?_; clear HF; intro _ HF
    refine sl_nil (wp_block (wp_loop (eqLitI w A B n cA cB xs ys) (fun ac _ => n - (intOf (ac.eval (.tmp 13))).toNat) ?_ ?_))
    · exact ⟨0, HF.keep [0, 1, 12, 13], Nat.zero_le _, rfl, Mod.refl _ _⟩
    · clear HF
      rintro ac2 w2 ⟨k, HF, hk, heq, hmod⟩
      have hmu : n - (intOf ((ac2.tmps[13]?).getD undef)).toNat = n - k := by rw [HF.see 13 rfl]; simp [intOf]
      have HMU := Lib.hid hmu
      have HEQ := Lib.hid heq
      have HMOD := Lib.hid hmod
      clear hmu heq hmod
      by_cases hlt : k < n
      · have hlt' : decide ((k : Int) < n) = true := by simp; omega
        obtain ⟨x, hx⟩ : ∃ x, xs[k]? = some x := ⟨_, List.getElem?_eq_getElem (by rw [HN.out]; exact hlt)⟩
        obtain ⟨y, hy⟩ : ∃ y, ys[k]? = some y := ⟨_, List.getElem?_eq_getElem (by rw [HM.out]; exact hlt)⟩
        obtain ⟨ad, rfl, hab, a0, a1, a2⟩ := eqLit_at (HA.out.keep0 HMOD.out) hx
        obtain ⟨bd, rfl, hbb, b0, b1, b2⟩ := eqLit_at (HB.out.keep0 HMOD.out) hy
        have HX := Lib.hid hx
        have HY := Lib.hid hy
        clear hx hy
        refine wp_seq (wp_region_lit ?_)
        refine sl_op HF rfl rfl (by decide) ?_; intro K hK; have e13 := HF.see 13 rfl; have e12 := HF.see 12 rfl; go_wp2_with fail; clear e13 e12 HF; intro _ HF
        refine sl_nil (wp_seq (wp_cond_true (HF.at 14 rfl) (wp_skip (sl_then (wp_seq (wp_block (wp_seq (wp_region_lit ?_))))))))
        refine sl_move HF rfl rfl (.inl rfl) (by decide) rfl ?_; clear HF; intro _ HF
        refine sl_move HF rfl rfl (.inr rfl) (by decide) rfl ?_; clear HF; intro _ HF
        refine sl_nil (wp_seq ?_)
        have HDIFF := Lib.hid (show x ≠ y → decide (xs = ys) = false from fun h => by
          simp only [decide_eq_false_iff_not]
          rintro rfl
          have := HX.out.symm.trans HY.out
          cases this
          exact h rfl)

        by_cases ekind : ¬ (x.kind = y.kind)
        · have g1 : (x.kind == y.kind) = false := by simp [ekind]
          have g2 : (x.kind != y.kind) = true := by rw [bne, g1]; rfl
          have HR := Lib.hid (HDIFF.out (fun h => ekind (by rw [h])))
          clear ekind
          apply sl_flow5 (N := 0) [some 16, some 17, some 18, some 19, some 20, some 21, some 22, some 23, some 24] [.quiet 0 0, .quiet 0 0, .quiet 0 0, .quiet 0 0, .quiet 0 0, .quiet 0 0, .quiet 0 0, .quiet 0 0, .quiet 0 0] (PhEq w2.drew) [_, _, _, _, _, _, _, _, _] HF
          case hm => kernel_rfl
          case hok => kernel_rfl
          case hfl => rfl
          case h0 => exact (fun _ => ⟨rfl⟩)
          case hobs =>
            apply And.intro
            · apply ob_quiet
              case hg => rfl
              case hop =>
                intro ax wx h k hlo hhi hP hk K hK
                have e0 := hk.see 0 rfl rfl
                clear hk
                go_wp2_with fail
                all_goals first | exact hP | rfl
              case hst => exact fun h h' e => rfl
            apply And.intro
            · apply ob_quiet
              case hg => rfl
              case hop =>
                intro ax wx h k hlo hhi hP hk K hK
                have e5 := hk.see 5 rfl rfl
                clear hk
                go_wp2_with fail
                all_goals first | exact hP | rfl
              case hst => exact fun h h' e => rfl
            apply And.intro
            · apply ob_quiet
              case hg => rfl
              case hop =>
                intro ax wx h k hlo hhi hP hk K hK
                have e16 := hk.see 16 rfl rfl
                have e17 := hk.see 17 rfl rfl
                clear hk
                obtain rfl := hP.eq
                go_wp2_with fail
                all_goals first | exact hP | rfl
              case hst => exact fun h h' e => rfl
            apply And.intro
            · apply ob_quiet
              case hg => rfl
              case hop =>
                intro ax wx h k hlo hhi hP hk K hK
                have e18 := hk.see 18 rfl rfl
                clear hk
                obtain rfl := hP.eq
                go_wp2_with fail
                all_goals first | exact hP | rfl
              case hst => exact fun h h' e => rfl
            apply And.intro
            · apply ob_quiet
              case hg => rfl
              case hop =>
                intro ax wx h k hlo hhi hP hk K hK
                have e1 := hk.see 1 rfl rfl
                clear hk
                go_wp2_with fail
                all_goals first | exact hP | rfl
              case hst => exact fun h h' e => rfl
            apply And.intro
            · apply ob_quiet
              case hg => rfl
              case hop =>
                intro ax wx h k hlo hhi hP hk K hK
                have e5 := hk.see 5 rfl rfl
                clear hk
                go_wp2_with fail
                all_goals first | exact hP | rfl
              case hst => exact fun h h' e => rfl
            apply And.intro
            · apply ob_quiet
              case hg => rfl
              case hop =>
                intro ax wx h k hlo hhi hP hk K hK
                have e20 := hk.see 20 rfl rfl
                have e21 := hk.see 21 rfl rfl
                clear hk
                obtain rfl := hP.eq
                go_wp2_with fail
                all_goals first | exact hP | rfl
              case hst => exact fun h h' e => rfl
            apply And.intro
            · apply ob_quiet
              case hg => rfl
              case hop =>
                intro ax wx h k hlo hhi hP hk K hK
                have e22 := hk.see 22 rfl rfl
                clear hk
                obtain rfl := hP.eq
                go_wp2_with fail
                all_goals first | exact hP | rfl
              case hst => exact fun h h' e => rfl
            apply And.intro
            · apply ob_quiet
              case hg => rfl
              case hop =>
                intro ax wx h k hlo hhi hP hk K hK
                have e19 := hk.see 19 rfl rfl
                have e23 := hk.see 23 rfl rfl
                clear hk
                obtain rfl := hP.eq
                go_wp2_with fail
                all_goals first | exact hP | rfl
              case hst => exact fun h h' e => rfl
            exact trivial
          intro w' a' h hP HF
          obtain rfl := hP.eq
          refine sl_then (wp_cond_true (HF.at 24 rfl) (wp_seq (wp_region_lit ?_)))
          refine sl_const HF rfl rfl (.inr rfl) (by decide) ?_; clear HF; intro _ HF
          refine sl_nil (wp_ret ?_)
          try dsimp only [Exit.then, Exit.inBlock]
          exact sl_ret1 HF rfl rfl ⟨by rw [HR.out], HMOD.out.drew⟩
        replace ekind := Decidable.not_not.1 ekind
        rw [← ekind] at b0
        by_cases en : ¬ (x.n = y.n)
        · have g1 : (x.n == y.n) = false := by simp [en]
          have g2 : (x.n != y.n) = true := by rw [bne, g1]; rfl
          have HR := Lib.hid (HDIFF.out (fun h => en (by rw [h])))
          clear en
          apply sl_flow5 (N := 0) [some 16, some 17, some 18, some 19, some 20, some 21, some 22, some 23, some 24] [.quiet 0 0, .quiet 0 0, .quiet 0 0, .quiet 0 0, .quiet 0 0, .quiet 0 0, .quiet 0 0, .quiet 0 0, .quiet 0 0] (PhEq w2.drew) [_, _, _, _, _, _, _, _, _] HF
          case hm => kernel_rfl
          case hok => kernel_rfl
          case hfl => rfl
          case h0 => exact (fun _ => ⟨rfl⟩)
          case hobs =>
            apply And.intro
            · apply ob_quiet
              case hg => rfl
              case hop =>
                intro ax wx h k hlo hhi hP hk K hK
                have e0 := hk.see 0 rfl rfl
                clear hk
                go_wp2_with fail
                all_goals first | exact hP | rfl
              case hst => exact fun h h' e => rfl
            apply And.intro
            · apply ob_quiet
              case hg => rfl
              case hop =>
                intro ax wx h k hlo hhi hP hk K hK
                have e5 := hk.see 5 rfl rfl
                clear hk
                go_wp2_with fail
                all_goals first | exact hP | rfl
              case hst => exact fun h h' e => rfl
            apply And.intro
            · apply ob_quiet
              case hg => rfl
              case hop =>
                intro ax wx h k hlo hhi hP hk K hK
                have e16 := hk.see 16 rfl rfl
                have e17 := hk.see 17 rfl rfl
                clear hk
                obtain rfl := hP.eq
                go_wp2_with fail
                all_goals first | exact hP | rfl
              case hst => exact fun h h' e => rfl
            apply And.intro
            · apply ob_quiet
              case hg => rfl
              case hop =>
                intro ax wx h k hlo hhi hP hk K hK
                have e18 := hk.see 18 rfl rfl
                clear hk
                obtain rfl := hP.eq
                go_wp2_with fail
                all_goals first | exact hP | rfl
              case hst => exact fun h h' e => rfl
            apply And.intro
            · apply ob_quiet
              case hg => rfl
              case hop =>
                intro ax wx h k hlo hhi hP hk K hK
                have e1 := hk.see 1 rfl rfl
                clear hk
                go_wp2_with fail
                all_goals first | exact hP | rfl
              case hst => exact fun h h' e => rfl
            apply And.intro
            · apply ob_quiet
              case hg => rfl
              case hop =>
                intro ax wx h k hlo hhi hP hk K hK
                have e5 := hk.see 5 rfl rfl
                clear hk
                go_wp2_with fail
                all_goals first | exact hP | rfl
              case hst => exact fun h h' e => rfl
            apply And.intro
            · apply ob_quiet
              case hg => rfl
              case hop =>
                intro ax wx h k hlo hhi hP hk K hK
                have e20 := hk.see 20 rfl rfl
                have e21 := hk.see 21 rfl rfl
                clear hk
                obtain rfl := hP.eq
                go_wp2_with fail
                all_goals first | exact hP | rfl
              case hst => exact fun h h' e => rfl
            apply And.intro
            · apply ob_quiet
              case hg => rfl
              case hop =>
                intro ax wx h k hlo hhi hP hk K hK
                have e22 := hk.see 22 rfl rfl
                clear hk
                obtain rfl := hP.eq
                go_wp2_with fail
                all_goals first | exact hP | rfl
              case hst => exact fun h h' e => rfl
            apply And.intro
            · apply ob_quiet
              case hg => rfl
              case hop =>
                intro ax wx h k hlo hhi hP hk K hK
                have e19 := hk.see 19 rfl rfl
                have e23 := hk.see 23 rfl rfl
                clear hk
                obtain rfl := hP.eq
                go_wp2_with fail
                all_goals first | exact hP | rfl
              case hst => exact fun h h' e => rfl
            exact trivial
          intro w' a' h hP HF
          obtain rfl := hP.eq
          refine sl_then (wp_cond_true (HF.at 24 rfl) (wp_seq (wp_region_lit ?_)))
          refine sl_const HF rfl rfl (.inr rfl) (by decide) ?_; clear HF; intro _ HF
          refine sl_nil (wp_ret ?_)
          try dsimp only [Exit.then, Exit.inBlock]
          exact sl_ret1 HF rfl rfl ⟨by rw [HR.out], HMOD.out.drew⟩
        replace en := Decidable.not_not.1 en
        rw [← en] at b1
        by_cases etext : ¬ (x.text = y.text)
        · have g1 : ((str x.text).toList == (str y.text).toList) = false := by rw [cstr_toList, cstr_toList]; simp [etext]
          have g2 : ((str x.text).toList != (str y.text).toList) = true := by rw [bne, g1]; rfl
          have HR := Lib.hid (HDIFF.out (fun h => etext (by rw [h])))
          clear etext
          apply sl_flow5 (N := 0) [some 16, some 17, some 18, some 19, some 20, some 21, some 22, some 23, some 24] [.quiet 0 0, .quiet 0 0, .quiet 0 0, .quiet 0 0, .quiet 0 0, .quiet 0 0, .quiet 0 0, .quiet 0 0, .quiet 0 0] (PhEq w2.drew) [_, _, _, _, _, _, _, _, _] HF
          case hm => kernel_rfl
          case hok => kernel_rfl
          case hfl => rfl
          case h0 => exact (fun _ => ⟨rfl⟩)
          case hobs =>
            apply And.intro
            · apply ob_quiet
              case hg => rfl
              case hop =>
                intro ax wx h k hlo hhi hP hk K hK
                have e0 := hk.see 0 rfl rfl
                clear hk
                go_wp2_with fail
                all_goals first | exact hP | rfl
              case hst => exact fun h h' e => rfl
            apply And.intro
            · apply ob_quiet
              case hg => rfl
              case hop =>
                intro ax wx h k hlo hhi hP hk K hK
                have e5 := hk.see 5 rfl rfl
                clear hk
                go_wp2_with fail
                all_goals first | exact hP | rfl
              case hst => exact fun h h' e => rfl
            apply And.intro
            · apply ob_quiet
              case hg => rfl
              case hop =>
                intro ax wx h k hlo hhi hP hk K hK
                have e16 := hk.see 16 rfl rfl
                have e17 := hk.see 17 rfl rfl
                clear hk
                obtain rfl := hP.eq
                go_wp2_with fail
                all_goals first | exact hP | rfl
              case hst => exact fun h h' e => rfl
            apply And.intro
            · apply ob_quiet
              case hg => rfl
              case hop =>
                intro ax wx h k hlo hhi hP hk K hK
                have e18 := hk.see 18 rfl rfl
                clear hk
                obtain rfl := hP.eq
                go_wp2_with fail
                all_goals first | exact hP | rfl
              case hst => exact fun h h' e => rfl
            apply And.intro
            · apply ob_quiet
              case hg => rfl
              case hop =>
                intro ax wx h k hlo hhi hP hk K hK
                have e1 := hk.see 1 rfl rfl
                clear hk
                go_wp2_with fail
                all_goals first | exact hP | rfl
              case hst => exact fun h h' e => rfl
            apply And.intro
            · apply ob_quiet
              case hg => rfl
              case hop =>
                intro ax wx h k hlo hhi hP hk K hK
                have e5 := hk.see 5 rfl rfl
                clear hk
                go_wp2_with fail
                all_goals first | exact hP | rfl
              case hst => exact fun h h' e => rfl
            apply And.intro
            · apply ob_quiet
              case hg => rfl
              case hop =>
                intro ax wx h k hlo hhi hP hk K hK
                have e20 := hk.see 20 rfl rfl
                have e21 := hk.see 21 rfl rfl
                clear hk
                obtain rfl := hP.eq
                go_wp2_with fail
                all_goals first | exact hP | rfl
              case hst => exact fun h h' e => rfl
            apply And.intro
            · apply ob_quiet
              case hg => rfl
              case hop =>
                intro ax wx h k hlo hhi hP hk K hK
                have e22 := hk.see 22 rfl rfl
                clear hk
                obtain rfl := hP.eq
                go_wp2_with fail
                all_goals first | exact hP | rfl
              case hst => exact fun h h' e => rfl
            apply And.intro
            · apply ob_quiet
              case hg => rfl
              case hop =>
                intro ax wx h k hlo hhi hP hk K hK
                have e19 := hk.see 19 rfl rfl
                have e23 := hk.see 23 rfl rfl
                clear hk
                obtain rfl := hP.eq
                go_wp2_with fail
                all_goals first | exact hP | rfl
              case hst => exact fun h h' e => rfl
            exact trivial
          intro w' a' h hP HF
          obtain rfl := hP.eq
          refine sl_then (wp_cond_true (HF.at 24 rfl) (wp_seq (wp_region_lit ?_)))
          refine sl_const HF rfl rfl (.inr rfl) (by decide) ?_; clear HF; intro _ HF
          refine sl_nil (wp_ret ?_)
          try dsimp only [Exit.then, Exit.inBlock]
          exact sl_ret1 HF rfl rfl ⟨by rw [HR.out], HMOD.out.drew⟩
        replace etext := Decidable.not_not.1 etext
        rw [← etext] at b2
        have gs : ((str x.text).toList == (str x.text).toList) = true := by simp
        have gs2 : ((str x.text).toList != (str x.text).toList) = false := by rw [bne, gs]; rfl
        have HXY := Lib.hid (show x = y by
          rcases x with ⟨x1, x2, x3⟩
          rcases y with ⟨y1, y2, y3⟩
          simp_all)
        clear ekind en etext
        apply sl_flow5 (N := 0) [some 16, some 17, some 18, some 19, some 20, some 21, some 22, some 23, some 24] [.quiet 0 0, .quiet 0 0, .quiet 0 0, .quiet 0 0, .quiet 0 0, .quiet 0 0, .quiet 0 0, .quiet 0 0, .quiet 0 0] (PhEq w2.drew) [_, _, _, _, _, _, _, _, _] HF
        case hm => kernel_rfl
        case hok => kernel_rfl
        case hfl => rfl
        case h0 => exact (fun _ => ⟨rfl⟩)
        case hobs =>
          apply And.intro
          · apply ob_quiet
            case hg => rfl
            case hop =>
              intro ax wx h k hlo hhi hP hk K hK
              have e0 := hk.see 0 rfl rfl
              clear hk
              go_wp2_with fail
              all_goals first | exact hP | rfl
            case hst => exact fun h h' e => rfl
          apply And.intro
          · apply ob_quiet
            case hg => rfl
            case hop =>
              intro ax wx h k hlo hhi hP hk K hK
              have e5 := hk.see 5 rfl rfl
              clear hk
              go_wp2_with fail
              all_goals first | exact hP | rfl
            case hst => exact fun h h' e => rfl
          apply And.intro
          · apply ob_quiet
            case hg => rfl
            case hop =>
              intro ax wx h k hlo hhi hP hk K hK
              have e16 := hk.see 16 rfl rfl
              have e17 := hk.see 17 rfl rfl
              clear hk
              obtain rfl := hP.eq
              go_wp2_with fail
              all_goals first | exact hP | rfl
            case hst => exact fun h h' e => rfl
          apply And.intro
          · apply ob_quiet
            case hg => rfl
            case hop =>
              intro ax wx h k hlo hhi hP hk K hK
              have e18 := hk.see 18 rfl rfl
              clear hk
              obtain rfl := hP.eq
              go_wp2_with fail
              all_goals first | exact hP | rfl
            case hst => exact fun h h' e => rfl
          apply And.intro
          · apply ob_quiet
            case hg => rfl
            case hop =>
              intro ax wx h k hlo hhi hP hk K hK
              have e1 := hk.see 1 rfl rfl
              clear hk
              go_wp2_with fail
              all_goals first | exact hP | rfl
            case hst => exact fun h h' e => rfl
          apply And.intro
          · apply ob_quiet
            case hg => rfl
            case hop =>
              intro ax wx h k hlo hhi hP hk K hK
              have e5 := hk.see 5 rfl rfl
              clear hk
              go_wp2_with fail
              all_goals first | exact hP | rfl
            case hst => exact fun h h' e => rfl
          apply And.intro
          · apply ob_quiet
            case hg => rfl
            case hop =>
              intro ax wx h k hlo hhi hP hk K hK
              have e20 := hk.see 20 rfl rfl
              have e21 := hk.see 21 rfl rfl
              clear hk
              obtain rfl := hP.eq
              go_wp2_with fail
              all_goals first | exact hP | rfl
            case hst => exact fun h h' e => rfl
          apply And.intro
          · apply ob_quiet
            case hg => rfl
            case hop =>
              intro ax wx h k hlo hhi hP hk K hK
              have e22 := hk.see 22 rfl rfl
              clear hk
              obtain rfl := hP.eq
              go_wp2_with fail
              all_goals first | exact hP | rfl
            case hst => exact fun h h' e => rfl
          apply And.intro
          · apply ob_quiet
            case hg => rfl
            case hop =>
              intro ax wx h k hlo hhi hP hk K hK
              have e19 := hk.see 19 rfl rfl
              have e23 := hk.see 23 rfl rfl
              clear hk
              obtain rfl := hP.eq
              go_wp2_with fail
              all_goals first | exact hP | rfl
            case hst => exact fun h h' e => rfl
          exact trivial
        intro w' a' h hP HF
        obtain rfl := hP.eq
        refine sl_then (wp_cond_false (HF.at 24 rfl) (wp_skip (sl_blk (wp_region_lit ?_))))
        refine sl_op HF rfl rfl (by decide) ?_; intro K hK; have e13 := HF.see 13 rfl; go_wp2_with fail; clear e13 HF; intro _ HF
        refine sl_move HF rfl rfl (.inl rfl) (by decide) rfl ?_; clear HF; intro _ HF
        refine wpList_nil ?_
        refine ⟨⟨k + 1, ?_, hlt, ?_, HMOD.out.drew⟩, ?_⟩
        · have := HF.keep [0, 1, 12, 13]
          rw [show ((k + 1 : Nat) : Int) = (k : Int) + 1 by omega]
          exact this
        · rw [List.take_add_one, List.take_add_one, HEQ.out, HX.out, HY.out, HXY.out]
        · have e9 := HF.see 13 rfl
          try simp only [Act.eval_tmp]
          rw [HMU.out, e9]
          simp only [intOf]
          omega
      · have hge : decide ((k : Int) < n) = false := by simp; omega
        have HR := Lib.hid (show decide (xs = ys) = true by
          have h1 := HEQ.out
          rw [List.take_of_length_le (by rw [HN.out]; omega), List.take_of_length_le (by rw [HM.out]; omega)] at h1
          simp [h1])
        refine wp_seq (wp_region_lit ?_)
        refine sl_op HF rfl rfl (by decide) ?_; intro K hK; have e13 := HF.see 13 rfl; have e12 := HF.see 12 rfl; go_wp2_with fail; clear e13 e12 HF; intro _ HF
        refine sl_nil (wp_seq (wp_cond_false (HF.at 14 rfl) (wp_exit ?_)))
        dsimp only [Exit.then]
        refine sl_exit (sl_then (wp_seq (wp_region_lit ?_)))
        refine sl_const HF rfl rfl (.inr rfl) (by decide) ?_; clear HF; intro _ HF
        refine sl_nil (wp_ret ?_)
        exact sl_ret1 HF rfl rfl ⟨by rw [HR.out], HMOD.out⟩
  · have HR := Lib.hid (show decide (xs = ys) = false by
      simp only [decide_eq_false_iff_not]
      rintro rfl
      exact hnm (HN.out.symm.trans HM.out))
    have g1 : ((n : Int) == (m : Int)) = false := by simp; omega
    have g2 : ((n : Int) != (m : Int)) = true := by rw [bne, g1]; rfl
    clear hnm
    refine sl_move HF rfl rfl (.inl rfl) (by decide) rfl ?_; clear HF; intro _ HF
    refine sl_op HF rfl rfl (by decide) ?_; intro K hK; have e6 := HF.see 6 rfl; go_wp2_with fail; clear e6 HF; intro _ HF
    refine sl_move HF rfl rfl (.inl rfl) (by decide) rfl ?_; clear HF; intro _ HF
    refine sl_op HF rfl rfl (by decide) ?_; intro K hK; have e8 := HF.see 8 rfl; go_wp2_with fail; clear e8 HF; intro _ HF
    refine sl_op HF rfl rfl (by decide) ?_; intro K hK; have e7 := HF.see 7 rfl; have e9 := HF.see 9 rfl; go_wp2_with fail; clear e7 e9 HF; intro _ HF
    refine sl_nil (wp_cond_true (HF.at 10 rfl) (wp_seq (wp_region_lit ?_)))
    refine sl_const HF rfl rfl (.inr rfl) (by decide) ?_; clear HF; intro _ HF
    refine sl_nil (wp_ret ?_)
    try dsimp only [Exit.then]
    exact sl_ret1 HF rfl rfl ⟨by rw [HR.out], Mod.refl _ _⟩

noncomputable def eqInsBody : Code := (Tryd.f26.body).getD .skip
theorem eqIns_at {w : World} {A : Option Addr} {xs : List InsT} (h : Rd All w A (xs.flatMap insC)) {i : Nat} {x : InsT} (hx : xs[i]? = some x) :
    ∃ ad, A = some ad ∧ ad.block < w.heap.size ∧ w.cell? (ad.add (i * 3)) = some (.int .i64 x.op) ∧ w.cell? ⟨(ad.add (i * 3)).block, (ad.add (i * 3)).off + 1, none⟩ = some (.int .i64 x.a) ∧ w.cell? ⟨(ad.add (i * 3)).block, (ad.add (i * 3)).off + 2, none⟩ = some (.int .i64 x.b) := by
  obtain ⟨ad, e1, e2, hc⟩ := flat3_at h (fun x => rfl) hx
  refine ⟨ad, e1, e2, hc 0 _ rfl, ?_, ?_⟩
  · rw [← add_posn ad (i * 3) 0]; exact hc 1 _ rfl
  · rw [← add_posn ad (i * 3) 1]; exact hc 2 _ rfl

def eqInsI (w0 : World) (A B : Option Addr) (n cA cB : Nat) (xs ys : List InsT) (ac : Act) (w : World) : Prop :=
  ∃ k : Nat, Sl 26 [(0, .slice A n cA), (1, .slice B n cB), (12, .int .i64 n), (13, .int .i64 (k : Nat))] ac ∧ k ≤ n ∧ xs.take k = ys.take k ∧ Mod Nil w0 w

set_option maxHeartbeats 3200000 in
set_option maxRecDepth 100000 in
theorem eqIns_any (A B : Option Addr) (n m cA cB : Nat) (xs ys : List InsT) (w : World) (hn : xs.length = n) (hm : ys.length = m) (hbn : n ≤ 9223372036854775807) (hbm : m ≤ 9223372036854775807)
    (hA : Rd All w A (xs.flatMap insC)) (hB : Rd All w B (ys.flatMap insC)) :
    Calls Tryd.prog 26 #[.slice A n cA, .slice B m cB] w fun e w' => e = .returned (.bool (decide (xs = ys))) ∧ Mod Nil w w' := by
  have HA := Lib.hid hA
  have HB := Lib.hid hB
  have HN := Lib.hid hn
  have HM := Lib.hid hm
  have hst28 : Tryd.prog.stoodInHeld 33 = false := by kernel_rfl
  have heg28 : Tryd.prog.eqGuardType Tryd.prog.depth 33 = false := by kernel_rfl
  clear hA hB hn hm
  refine sl_enter (n := 26) (fn := Tryd.f26) (c := eqInsBody) Tryd.func26 rfl rfl (by simp) fun ac HF => ?_
  conv => arg 2; whnf
  refine wp_seq (wp_region_lit ?_)
  refine sl_const HF rfl rfl (.inr rfl) (by decide) ?_; clear HF; intro _ HF
  refine sl_nil (wp_seq (wp_seq (wp_region_lit ?_)))
  by_cases hnm : n = m
  · subst hnm
    refine sl_move HF rfl rfl (.inl rfl) (by decide) rfl ?_; clear HF; intro _ HF
    refine sl_op HF rfl rfl (by decide) ?_; intro K hK; have e6 := HF.see 6 rfl; go_wp2_with fail; clear e6 HF; intro _ HF
    refine sl_move HF rfl rfl (.inl rfl) (by decide) rfl ?_; clear HF; intro _ HF
    refine sl_op HF rfl rfl (by decide) ?_; intro K hK; have e8 := HF.see 8 rfl; go_wp2_with fail; clear e8 HF; intro _ HF
    refine sl_op HF rfl rfl (by decide) ?_; intro K hK; have e7 := HF.see 7 rfl; have e9 := HF.see 9 rfl; go_wp2_with fail; clear e7 e9 HF; intro _ HF
    refine sl_nil (wp_cond_false (HF.at 10 rfl) (wp_skip (sl_then (wp_seq (wp_seq (wp_region_lit ?_))))))
    refine sl_move HF rfl rfl (.inl rfl) (by decide) rfl ?_; clear HF; intro _ HF
    refine sl_op HF rfl rfl (by decide) ?_; intro K hK; have e11 := HF.see 11 rfl; go_wp2_with fail; clear e11 HF; intro _ HF
    refine sl_const HF rfl rfl (.inl rfl) (by decide) ?_; clear HF; intro _ HF
    refine sl_nil (wp_block (wp_loop (eqInsI w A B n cA cB xs ys) (fun ac _ => n - (intOf (ac.eval (.tmp 13))).toNat) ?_ ?_))
    · exact ⟨0, HF.keep [0, 1, 12, 13], Nat.zero_le _, rfl, Mod.refl _ _⟩
    · clear HF
      rintro ac2 w2 ⟨k, HF, hk, heq, hmod⟩
      have hmu : n - (intOf ((ac2.tmps[13]?).getD undef)).toNat = n - k := by rw [HF.see 13 rfl]; simp [intOf]
      have HMU := Lib.hid hmu
      have HEQ := Lib.hid heq
      have HMOD := Lib.hid hmod
      clear hmu heq hmod
      by_cases hlt : k < n
      · have hlt' : decide ((k : Int) < n) = true := by simp; omega
        obtain ⟨x, hx⟩ : ∃ x, xs[k]? = some x := ⟨_, List.getElem?_eq_getElem (by rw [HN.out]; exact hlt)⟩
        obtain ⟨y, hy⟩ : ∃ y, ys[k]? = some y := ⟨_, List.getElem?_eq_getElem (by rw [HM.out]; exact hlt)⟩
        obtain ⟨ad, rfl, hab, a0, a1, a2⟩ := eqIns_at (HA.out.keep0 HMOD.out) hx
        obtain ⟨bd, rfl, hbb, b0, b1, b2⟩ := eqIns_at (HB.out.keep0 HMOD.out) hy
        have HX := Lib.hid hx
        have HY := Lib.hid hy
        clear hx hy
        refine wp_seq (wp_region_lit ?_)
        refine sl_op HF rfl rfl (by decide) ?_; intro K hK; have e13 := HF.see 13 rfl; have e12 := HF.see 12 rfl; go_wp2_with fail; clear e13 e12 HF; intro _ HF
        refine sl_nil (wp_seq (wp_cond_true (HF.at 14 rfl) (wp_skip (sl_then (wp_seq (wp_block (wp_seq (wp_region_lit ?_))))))))
        refine sl_move HF rfl rfl (.inl rfl) (by decide) rfl ?_; clear HF; intro _ HF
        refine sl_move HF rfl rfl (.inr rfl) (by decide) rfl ?_; clear HF; intro _ HF
        refine sl_nil (wp_seq ?_)
        have HDIFF := Lib.hid (show x ≠ y → decide (xs = ys) = false from fun h => by
          simp only [decide_eq_false_iff_not]
          rintro rfl
          have := HX.out.symm.trans HY.out
          cases this
          exact h rfl)

        by_cases eop : ¬ (x.op = y.op)
        · have g1 : (x.op == y.op) = false := by simp [eop]
          have g2 : (x.op != y.op) = true := by rw [bne, g1]; rfl
          have HR := Lib.hid (HDIFF.out (fun h => eop (by rw [h])))
          clear eop
          apply sl_flow5 (N := 0) [some 16, some 17, some 18, some 19, some 20, some 21, some 22, some 23, some 24] [.quiet 0 0, .quiet 0 0, .quiet 0 0, .quiet 0 0, .quiet 0 0, .quiet 0 0, .quiet 0 0, .quiet 0 0, .quiet 0 0] (PhEq w2.drew) [_, _, _, _, _, _, _, _, _] HF
          case hm => kernel_rfl
          case hok => kernel_rfl
          case hfl => rfl
          case h0 => exact (fun _ => ⟨rfl⟩)
          case hobs =>
            apply And.intro
            · apply ob_quiet
              case hg => rfl
              case hop =>
                intro ax wx h k hlo hhi hP hk K hK
                have e0 := hk.see 0 rfl rfl
                clear hk
                go_wp2_with fail
                all_goals first | exact hP | rfl
              case hst => exact fun h h' e => rfl
            apply And.intro
            · apply ob_quiet
              case hg => rfl
              case hop =>
                intro ax wx h k hlo hhi hP hk K hK
                have e5 := hk.see 5 rfl rfl
                clear hk
                go_wp2_with fail
                all_goals first | exact hP | rfl
              case hst => exact fun h h' e => rfl
            apply And.intro
            · apply ob_quiet
              case hg => rfl
              case hop =>
                intro ax wx h k hlo hhi hP hk K hK
                have e16 := hk.see 16 rfl rfl
                have e17 := hk.see 17 rfl rfl
                clear hk
                obtain rfl := hP.eq
                go_wp2_with fail
                all_goals first | exact hP | rfl
              case hst => exact fun h h' e => rfl
            apply And.intro
            · apply ob_quiet
              case hg => rfl
              case hop =>
                intro ax wx h k hlo hhi hP hk K hK
                have e18 := hk.see 18 rfl rfl
                clear hk
                obtain rfl := hP.eq
                go_wp2_with fail
                all_goals first | exact hP | rfl
              case hst => exact fun h h' e => rfl
            apply And.intro
            · apply ob_quiet
              case hg => rfl
              case hop =>
                intro ax wx h k hlo hhi hP hk K hK
                have e1 := hk.see 1 rfl rfl
                clear hk
                go_wp2_with fail
                all_goals first | exact hP | rfl
              case hst => exact fun h h' e => rfl
            apply And.intro
            · apply ob_quiet
              case hg => rfl
              case hop =>
                intro ax wx h k hlo hhi hP hk K hK
                have e5 := hk.see 5 rfl rfl
                clear hk
                go_wp2_with fail
                all_goals first | exact hP | rfl
              case hst => exact fun h h' e => rfl
            apply And.intro
            · apply ob_quiet
              case hg => rfl
              case hop =>
                intro ax wx h k hlo hhi hP hk K hK
                have e20 := hk.see 20 rfl rfl
                have e21 := hk.see 21 rfl rfl
                clear hk
                obtain rfl := hP.eq
                go_wp2_with fail
                all_goals first | exact hP | rfl
              case hst => exact fun h h' e => rfl
            apply And.intro
            · apply ob_quiet
              case hg => rfl
              case hop =>
                intro ax wx h k hlo hhi hP hk K hK
                have e22 := hk.see 22 rfl rfl
                clear hk
                obtain rfl := hP.eq
                go_wp2_with fail
                all_goals first | exact hP | rfl
              case hst => exact fun h h' e => rfl
            apply And.intro
            · apply ob_quiet
              case hg => rfl
              case hop =>
                intro ax wx h k hlo hhi hP hk K hK
                have e19 := hk.see 19 rfl rfl
                have e23 := hk.see 23 rfl rfl
                clear hk
                obtain rfl := hP.eq
                go_wp2_with fail
                all_goals first | exact hP | rfl
              case hst => exact fun h h' e => rfl
            exact trivial
          intro w' a' h hP HF
          obtain rfl := hP.eq
          refine sl_then (wp_cond_true (HF.at 24 rfl) (wp_seq (wp_region_lit ?_)))
          refine sl_const HF rfl rfl (.inr rfl) (by decide) ?_; clear HF; intro _ HF
          refine sl_nil (wp_ret ?_)
          try dsimp only [Exit.then, Exit.inBlock]
          exact sl_ret1 HF rfl rfl ⟨by rw [HR.out], HMOD.out.drew⟩
        replace eop := Decidable.not_not.1 eop
        rw [← eop] at b0
        by_cases ea : ¬ (x.a = y.a)
        · have g1 : (x.a == y.a) = false := by simp [ea]
          have g2 : (x.a != y.a) = true := by rw [bne, g1]; rfl
          have HR := Lib.hid (HDIFF.out (fun h => ea (by rw [h])))
          clear ea
          apply sl_flow5 (N := 0) [some 16, some 17, some 18, some 19, some 20, some 21, some 22, some 23, some 24] [.quiet 0 0, .quiet 0 0, .quiet 0 0, .quiet 0 0, .quiet 0 0, .quiet 0 0, .quiet 0 0, .quiet 0 0, .quiet 0 0] (PhEq w2.drew) [_, _, _, _, _, _, _, _, _] HF
          case hm => kernel_rfl
          case hok => kernel_rfl
          case hfl => rfl
          case h0 => exact (fun _ => ⟨rfl⟩)
          case hobs =>
            apply And.intro
            · apply ob_quiet
              case hg => rfl
              case hop =>
                intro ax wx h k hlo hhi hP hk K hK
                have e0 := hk.see 0 rfl rfl
                clear hk
                go_wp2_with fail
                all_goals first | exact hP | rfl
              case hst => exact fun h h' e => rfl
            apply And.intro
            · apply ob_quiet
              case hg => rfl
              case hop =>
                intro ax wx h k hlo hhi hP hk K hK
                have e5 := hk.see 5 rfl rfl
                clear hk
                go_wp2_with fail
                all_goals first | exact hP | rfl
              case hst => exact fun h h' e => rfl
            apply And.intro
            · apply ob_quiet
              case hg => rfl
              case hop =>
                intro ax wx h k hlo hhi hP hk K hK
                have e16 := hk.see 16 rfl rfl
                have e17 := hk.see 17 rfl rfl
                clear hk
                obtain rfl := hP.eq
                go_wp2_with fail
                all_goals first | exact hP | rfl
              case hst => exact fun h h' e => rfl
            apply And.intro
            · apply ob_quiet
              case hg => rfl
              case hop =>
                intro ax wx h k hlo hhi hP hk K hK
                have e18 := hk.see 18 rfl rfl
                clear hk
                obtain rfl := hP.eq
                go_wp2_with fail
                all_goals first | exact hP | rfl
              case hst => exact fun h h' e => rfl
            apply And.intro
            · apply ob_quiet
              case hg => rfl
              case hop =>
                intro ax wx h k hlo hhi hP hk K hK
                have e1 := hk.see 1 rfl rfl
                clear hk
                go_wp2_with fail
                all_goals first | exact hP | rfl
              case hst => exact fun h h' e => rfl
            apply And.intro
            · apply ob_quiet
              case hg => rfl
              case hop =>
                intro ax wx h k hlo hhi hP hk K hK
                have e5 := hk.see 5 rfl rfl
                clear hk
                go_wp2_with fail
                all_goals first | exact hP | rfl
              case hst => exact fun h h' e => rfl
            apply And.intro
            · apply ob_quiet
              case hg => rfl
              case hop =>
                intro ax wx h k hlo hhi hP hk K hK
                have e20 := hk.see 20 rfl rfl
                have e21 := hk.see 21 rfl rfl
                clear hk
                obtain rfl := hP.eq
                go_wp2_with fail
                all_goals first | exact hP | rfl
              case hst => exact fun h h' e => rfl
            apply And.intro
            · apply ob_quiet
              case hg => rfl
              case hop =>
                intro ax wx h k hlo hhi hP hk K hK
                have e22 := hk.see 22 rfl rfl
                clear hk
                obtain rfl := hP.eq
                go_wp2_with fail
                all_goals first | exact hP | rfl
              case hst => exact fun h h' e => rfl
            apply And.intro
            · apply ob_quiet
              case hg => rfl
              case hop =>
                intro ax wx h k hlo hhi hP hk K hK
                have e19 := hk.see 19 rfl rfl
                have e23 := hk.see 23 rfl rfl
                clear hk
                obtain rfl := hP.eq
                go_wp2_with fail
                all_goals first | exact hP | rfl
              case hst => exact fun h h' e => rfl
            exact trivial
          intro w' a' h hP HF
          obtain rfl := hP.eq
          refine sl_then (wp_cond_true (HF.at 24 rfl) (wp_seq (wp_region_lit ?_)))
          refine sl_const HF rfl rfl (.inr rfl) (by decide) ?_; clear HF; intro _ HF
          refine sl_nil (wp_ret ?_)
          try dsimp only [Exit.then, Exit.inBlock]
          exact sl_ret1 HF rfl rfl ⟨by rw [HR.out], HMOD.out.drew⟩
        replace ea := Decidable.not_not.1 ea
        rw [← ea] at b1
        by_cases eb : ¬ (x.b = y.b)
        · have g1 : (x.b == y.b) = false := by simp [eb]
          have g2 : (x.b != y.b) = true := by rw [bne, g1]; rfl
          have HR := Lib.hid (HDIFF.out (fun h => eb (by rw [h])))
          clear eb
          apply sl_flow5 (N := 0) [some 16, some 17, some 18, some 19, some 20, some 21, some 22, some 23, some 24] [.quiet 0 0, .quiet 0 0, .quiet 0 0, .quiet 0 0, .quiet 0 0, .quiet 0 0, .quiet 0 0, .quiet 0 0, .quiet 0 0] (PhEq w2.drew) [_, _, _, _, _, _, _, _, _] HF
          case hm => kernel_rfl
          case hok => kernel_rfl
          case hfl => rfl
          case h0 => exact (fun _ => ⟨rfl⟩)
          case hobs =>
            apply And.intro
            · apply ob_quiet
              case hg => rfl
              case hop =>
                intro ax wx h k hlo hhi hP hk K hK
                have e0 := hk.see 0 rfl rfl
                clear hk
                go_wp2_with fail
                all_goals first | exact hP | rfl
              case hst => exact fun h h' e => rfl
            apply And.intro
            · apply ob_quiet
              case hg => rfl
              case hop =>
                intro ax wx h k hlo hhi hP hk K hK
                have e5 := hk.see 5 rfl rfl
                clear hk
                go_wp2_with fail
                all_goals first | exact hP | rfl
              case hst => exact fun h h' e => rfl
            apply And.intro
            · apply ob_quiet
              case hg => rfl
              case hop =>
                intro ax wx h k hlo hhi hP hk K hK
                have e16 := hk.see 16 rfl rfl
                have e17 := hk.see 17 rfl rfl
                clear hk
                obtain rfl := hP.eq
                go_wp2_with fail
                all_goals first | exact hP | rfl
              case hst => exact fun h h' e => rfl
            apply And.intro
            · apply ob_quiet
              case hg => rfl
              case hop =>
                intro ax wx h k hlo hhi hP hk K hK
                have e18 := hk.see 18 rfl rfl
                clear hk
                obtain rfl := hP.eq
                go_wp2_with fail
                all_goals first | exact hP | rfl
              case hst => exact fun h h' e => rfl
            apply And.intro
            · apply ob_quiet
              case hg => rfl
              case hop =>
                intro ax wx h k hlo hhi hP hk K hK
                have e1 := hk.see 1 rfl rfl
                clear hk
                go_wp2_with fail
                all_goals first | exact hP | rfl
              case hst => exact fun h h' e => rfl
            apply And.intro
            · apply ob_quiet
              case hg => rfl
              case hop =>
                intro ax wx h k hlo hhi hP hk K hK
                have e5 := hk.see 5 rfl rfl
                clear hk
                go_wp2_with fail
                all_goals first | exact hP | rfl
              case hst => exact fun h h' e => rfl
            apply And.intro
            · apply ob_quiet
              case hg => rfl
              case hop =>
                intro ax wx h k hlo hhi hP hk K hK
                have e20 := hk.see 20 rfl rfl
                have e21 := hk.see 21 rfl rfl
                clear hk
                obtain rfl := hP.eq
                go_wp2_with fail
                all_goals first | exact hP | rfl
              case hst => exact fun h h' e => rfl
            apply And.intro
            · apply ob_quiet
              case hg => rfl
              case hop =>
                intro ax wx h k hlo hhi hP hk K hK
                have e22 := hk.see 22 rfl rfl
                clear hk
                obtain rfl := hP.eq
                go_wp2_with fail
                all_goals first | exact hP | rfl
              case hst => exact fun h h' e => rfl
            apply And.intro
            · apply ob_quiet
              case hg => rfl
              case hop =>
                intro ax wx h k hlo hhi hP hk K hK
                have e19 := hk.see 19 rfl rfl
                have e23 := hk.see 23 rfl rfl
                clear hk
                obtain rfl := hP.eq
                go_wp2_with fail
                all_goals first | exact hP | rfl
              case hst => exact fun h h' e => rfl
            exact trivial
          intro w' a' h hP HF
          obtain rfl := hP.eq
          refine sl_then (wp_cond_true (HF.at 24 rfl) (wp_seq (wp_region_lit ?_)))
          refine sl_const HF rfl rfl (.inr rfl) (by decide) ?_; clear HF; intro _ HF
          refine sl_nil (wp_ret ?_)
          try dsimp only [Exit.then, Exit.inBlock]
          exact sl_ret1 HF rfl rfl ⟨by rw [HR.out], HMOD.out.drew⟩
        replace eb := Decidable.not_not.1 eb
        rw [← eb] at b2
        have HXY := Lib.hid (show x = y by
          rcases x with ⟨x1, x2, x3⟩
          rcases y with ⟨y1, y2, y3⟩
          simp_all)
        clear eop ea eb
        apply sl_flow5 (N := 0) [some 16, some 17, some 18, some 19, some 20, some 21, some 22, some 23, some 24] [.quiet 0 0, .quiet 0 0, .quiet 0 0, .quiet 0 0, .quiet 0 0, .quiet 0 0, .quiet 0 0, .quiet 0 0, .quiet 0 0] (PhEq w2.drew) [_, _, _, _, _, _, _, _, _] HF
        case hm => kernel_rfl
        case hok => kernel_rfl
        case hfl => rfl
        case h0 => exact (fun _ => ⟨rfl⟩)
        case hobs =>
          apply And.intro
          · apply ob_quiet
            case hg => rfl
            case hop =>
              intro ax wx h k hlo hhi hP hk K hK
              have e0 := hk.see 0 rfl rfl
              clear hk
              go_wp2_with fail
              all_goals first | exact hP | rfl
            case hst => exact fun h h' e => rfl
          apply And.intro
          · apply ob_quiet
            case hg => rfl
            case hop =>
              intro ax wx h k hlo hhi hP hk K hK
              have e5 := hk.see 5 rfl rfl
              clear hk
              go_wp2_with fail
              all_goals first | exact hP | rfl
            case hst => exact fun h h' e => rfl
          apply And.intro
          · apply ob_quiet
            case hg => rfl
            case hop =>
              intro ax wx h k hlo hhi hP hk K hK
              have e16 := hk.see 16 rfl rfl
              have e17 := hk.see 17 rfl rfl
              clear hk
              obtain rfl := hP.eq
              go_wp2_with fail
              all_goals first | exact hP | rfl
            case hst => exact fun h h' e => rfl
          apply And.intro
          · apply ob_quiet
            case hg => rfl
            case hop =>
              intro ax wx h k hlo hhi hP hk K hK
              have e18 := hk.see 18 rfl rfl
              clear hk
              obtain rfl := hP.eq
              go_wp2_with fail
              all_goals first | exact hP | rfl
            case hst => exact fun h h' e => rfl
          apply And.intro
          · apply ob_quiet
            case hg => rfl
            case hop =>
              intro ax wx h k hlo hhi hP hk K hK
              have e1 := hk.see 1 rfl rfl
              clear hk
              go_wp2_with fail
              all_goals first | exact hP | rfl
            case hst => exact fun h h' e => rfl
          apply And.intro
          · apply ob_quiet
            case hg => rfl
            case hop =>
              intro ax wx h k hlo hhi hP hk K hK
              have e5 := hk.see 5 rfl rfl
              clear hk
              go_wp2_with fail
              all_goals first | exact hP | rfl
            case hst => exact fun h h' e => rfl
          apply And.intro
          · apply ob_quiet
            case hg => rfl
            case hop =>
              intro ax wx h k hlo hhi hP hk K hK
              have e20 := hk.see 20 rfl rfl
              have e21 := hk.see 21 rfl rfl
              clear hk
              obtain rfl := hP.eq
              go_wp2_with fail
              all_goals first | exact hP | rfl
            case hst => exact fun h h' e => rfl
          apply And.intro
          · apply ob_quiet
            case hg => rfl
            case hop =>
              intro ax wx h k hlo hhi hP hk K hK
              have e22 := hk.see 22 rfl rfl
              clear hk
              obtain rfl := hP.eq
              go_wp2_with fail
              all_goals first | exact hP | rfl
            case hst => exact fun h h' e => rfl
          apply And.intro
          · apply ob_quiet
            case hg => rfl
            case hop =>
              intro ax wx h k hlo hhi hP hk K hK
              have e19 := hk.see 19 rfl rfl
              have e23 := hk.see 23 rfl rfl
              clear hk
              obtain rfl := hP.eq
              go_wp2_with fail
              all_goals first | exact hP | rfl
            case hst => exact fun h h' e => rfl
          exact trivial
        intro w' a' h hP HF
        obtain rfl := hP.eq
        refine sl_then (wp_cond_false (HF.at 24 rfl) (wp_skip (sl_blk (wp_region_lit ?_))))
        refine sl_op HF rfl rfl (by decide) ?_; intro K hK; have e13 := HF.see 13 rfl; go_wp2_with fail; clear e13 HF; intro _ HF
        refine sl_move HF rfl rfl (.inl rfl) (by decide) rfl ?_; clear HF; intro _ HF
        refine wpList_nil ?_
        refine ⟨⟨k + 1, ?_, hlt, ?_, HMOD.out.drew⟩, ?_⟩
        · have := HF.keep [0, 1, 12, 13]
          rw [show ((k + 1 : Nat) : Int) = (k : Int) + 1 by omega]
          exact this
        · rw [List.take_add_one, List.take_add_one, HEQ.out, HX.out, HY.out, HXY.out]
        · have e9 := HF.see 13 rfl
          try simp only [Act.eval_tmp]
          rw [HMU.out, e9]
          simp only [intOf]
          omega
      · have hge : decide ((k : Int) < n) = false := by simp; omega
        have HR := Lib.hid (show decide (xs = ys) = true by
          have h1 := HEQ.out
          rw [List.take_of_length_le (by rw [HN.out]; omega), List.take_of_length_le (by rw [HM.out]; omega)] at h1
          simp [h1])
        refine wp_seq (wp_region_lit ?_)
        refine sl_op HF rfl rfl (by decide) ?_; intro K hK; have e13 := HF.see 13 rfl; have e12 := HF.see 12 rfl; go_wp2_with fail; clear e13 e12 HF; intro _ HF
        refine sl_nil (wp_seq (wp_cond_false (HF.at 14 rfl) (wp_exit ?_)))
        dsimp only [Exit.then]
        refine sl_exit (sl_then (wp_seq (wp_region_lit ?_)))
        refine sl_const HF rfl rfl (.inr rfl) (by decide) ?_; clear HF; intro _ HF
        refine sl_nil (wp_ret ?_)
        exact sl_ret1 HF rfl rfl ⟨by rw [HR.out], HMOD.out⟩
  · have HR := Lib.hid (show decide (xs = ys) = false by
      simp only [decide_eq_false_iff_not]
      rintro rfl
      exact hnm (HN.out.symm.trans HM.out))
    have g1 : ((n : Int) == (m : Int)) = false := by simp; omega
    have g2 : ((n : Int) != (m : Int)) = true := by rw [bne, g1]; rfl
    clear hnm
    refine sl_move HF rfl rfl (.inl rfl) (by decide) rfl ?_; clear HF; intro _ HF
    refine sl_op HF rfl rfl (by decide) ?_; intro K hK; have e6 := HF.see 6 rfl; go_wp2_with fail; clear e6 HF; intro _ HF
    refine sl_move HF rfl rfl (.inl rfl) (by decide) rfl ?_; clear HF; intro _ HF
    refine sl_op HF rfl rfl (by decide) ?_; intro K hK; have e8 := HF.see 8 rfl; go_wp2_with fail; clear e8 HF; intro _ HF
    refine sl_op HF rfl rfl (by decide) ?_; intro K hK; have e7 := HF.see 7 rfl; have e9 := HF.see 9 rfl; go_wp2_with fail; clear e7 e9 HF; intro _ HF
    refine sl_nil (wp_cond_true (HF.at 10 rfl) (wp_seq (wp_region_lit ?_)))
    refine sl_const HF rfl rfl (.inr rfl) (by decide) ?_; clear HF; intro _ HF
    refine sl_nil (wp_ret ?_)
    try dsimp only [Exit.then]
    exact sl_ret1 HF rfl rfl ⟨by rw [HR.out], Mod.refl _ _⟩
end Go.Proofs.YtefloadjolpgbaaDoor

namespace Go.Proofs.YtefloadjolpgbaaDoor
open Go.RowKit

structure CodeV where
  A2 : Option Addr
  c2 : Nat
  A3 : Option Addr
  c3 : Nat
  A4 : Option Addr
  c4 : Nat
def codeArr (c : CodeT) (v : CodeV) : Array Value := #[.int .i64 c.args, .int .i64 c.vars, .slice v.A2 c.lits.length v.c2, .slice v.A3 c.ins.length v.c3, .slice v.A4 c.blocks.length v.c4, .string (str c.cls)]

structure CodeF (w : World) (c : CodeT) (v : CodeV) : Prop where
  ha : i64 c.args
  hv : i64 c.vars
  hcl : c.cls.length ≤ 9223372036854775807
  n2 : c.lits.length ≤ v.c2
  m2 : v.c2 ≤ 9223372036854775807
  n3 : c.ins.length ≤ v.c3
  m3 : v.c3 ≤ 9223372036854775807
  n4 : c.blocks.length ≤ v.c4
  m4 : v.c4 ≤ 9223372036854775807
  okl : ∀ x ∈ c.lits, x.ok
  oki : ∀ x ∈ c.ins, x.ok
  r2 : Rd All w v.A2 (c.lits.flatMap litC)
  r3 : Rd All w v.A3 (c.ins.flatMap insC)
  blk : ∀ (i : Nat) (b : CodeT), c.blocks[i]? = some b → ∃ ad u0 u1 u2 u3 u4 u5, v.A4 = some ad ∧ ad.block < w.heap.size ∧ CodeC w b [u0, u1, u2, u3, u4, u5] ∧ w.cell? (ad.add (i * 6)) = some u0 ∧ w.cell? ⟨(ad.add (i * 6)).block, (ad.add (i * 6)).off + 1, none⟩ = some u1 ∧ w.cell? ⟨(ad.add (i * 6)).block, (ad.add (i * 6)).off + 2, none⟩ = some u2 ∧
      w.cell? ⟨(ad.add (i * 6)).block, (ad.add (i * 6)).off + 3, none⟩ = some u3 ∧ w.cell? ⟨(ad.add (i * 6)).block, (ad.add (i * 6)).off + 4, none⟩ = some u4 ∧ w.cell? ⟨(ad.add (i * 6)).block, (ad.add (i * 6)).off + 5, none⟩ = some u5

theorem CodeC.view {w : World} {c : CodeT} {cs : List Value} (h : CodeC w c cs) : ∃ v : CodeV, cs.toArray = codeArr c v ∧ ∀ w', Mod Nil w w' → CodeF w' c v := by
  cases h with
  | mk args vars lits ins blocks cls A2 A3 A4 c2 c3 c4 rows ha hv hcl hl hi n2 m2 n3 m3 n4 m4 r2 r3 r4 hr h6 hb =>
    refine ⟨⟨A2, c2, A3, c3, A4, c4⟩, rfl, fun w' hm => ⟨ha, hv, hcl, n2, m2, n3, m3, n4, m4, hl, hi, r2.keep0 hm, r3.keep0 hm, fun i b hbi => ?_⟩⟩
    simp only [CodeT.blocks] at hbi
    have hil := (List.getElem?_eq_some_iff.1 hbi).1
    obtain ⟨r, hri⟩ : ∃ r, rows[i]? = some r := ⟨_, List.getElem?_eq_getElem (by rw [hr]; exact hil)⟩
    obtain ⟨ad, u0, u1, u2, u3, u4, u5, e1, e2, rfl, k0, k1, k2, k3, k4, k5⟩ := rows_six (r4.keep0 hm) h6 hri
    exact ⟨ad, u0, u1, u2, u3, u4, u5, e1, e2, (hb i b _ hbi hri).keep hm, k0, k1, k2, k3, k4, k5⟩

theorem code_boxed {w : World} {g : Nat} {c : CodeT} {v : CodeV} (h : Blk w g 26 (codeArr c v)) :
    w.cell? ⟨g, 0, none⟩ = some (.int .i64 c.args) ∧ w.cell? ⟨g, 1, none⟩ = some (.int .i64 c.vars) ∧ w.cell? ⟨g, 2, none⟩ = some (.slice v.A2 c.lits.length v.c2) ∧ w.cell? ⟨g, 3, none⟩ = some (.slice v.A3 c.ins.length v.c3) ∧
      w.cell? ⟨g, 4, none⟩ = some (.slice v.A4 c.blocks.length v.c4) ∧ w.cell? ⟨g, 5, none⟩ = some (.string (str c.cls)) :=
  ⟨h.cell 0, h.cell 1, h.cell 2, h.cell 3, h.cell 4, h.cell 5⟩

noncomputable def codeEq (a b : CodeT) : Bool := @decide (a = b) (Classical.propDecidable _)
theorem codeEq_true {a b : CodeT} (h : a = b) : codeEq a b = true := by unfold codeEq; exact @decide_eq_true _ (Classical.propDecidable _) h
theorem codeEq_false {a b : CodeT} (h : a ≠ b) : codeEq a b = false := by unfold codeEq; exact @decide_eq_false _ (Classical.propDecidable _) h
theorem code_ext {a b : CodeT} (h0 : a.args = b.args) (h1 : a.vars = b.vars) (h2 : a.lits = b.lits) (h3 : a.ins = b.ins) (h4 : a.blocks = b.blocks) (h5 : a.cls = b.cls) : a = b := by
  obtain ⟨_, _, _, _, _, _⟩ := a
  obtain ⟨_, _, _, _, _, _⟩ := b
  simp only [CodeT.args, CodeT.vars, CodeT.lits, CodeT.ins, CodeT.blocks, CodeT.cls] at *
  subst h0 h1 h2 h3 h4 h5
  rfl

/-! ### small -/
noncomputable def smallBody : Code := (Tryd.f6.body).getD .skip
set_option maxHeartbeats 3200000 in
set_option maxRecDepth 100000 in
theorem small_any (c : CodeT) (w : World) (cs : List Value) (h : CodeC w c cs) : Calls Tryd.prog 6 #[.agg cs.toArray] w fun e w' => (∃ b, e = .returned (.bool b) ∧ (b = true → c.deep < 60)) ∧ Mod Nil w w' := by
  obtain ⟨v, hv, _⟩ := h.view
  have HC := Lib.hid h
  have HV := Lib.hid hv
  have hblk : Blk (w.alloc (.cells (codeArr c v) 26)) w.heap.size 26 (codeArr c v) := Blk.new _ _ _
  have hm0 := (Mod.refl Nil w).alloc (.cells (codeArr c v) 26)
  rw [hv]
  clear h hv
  refine sl_enter (n := 11) (fn := Tryd.f6) (c := smallBody) Tryd.func6 rfl rfl (by simp) fun ac HF => ?_
  conv => arg 2; whnf
  unfold codeArr at hblk hm0 HF
  refine wp_seq (wp_region_lit ?_)
  refine sl_op HF rfl rfl (by decide) ?_; intro K hK; have e0 := HF.see 0 rfl; go_wp2_with fail; clear e0 HF; intro _ HF
  refine sl_const HF rfl rfl (.inr rfl) (by decide) ?_; clear HF; intro _ HF
  generalize hW : w.alloc (.cells #[.int .i64 c.args, .int .i64 c.vars, .slice v.A2 c.lits.length v.c2, .slice v.A3 c.ins.length v.c3, .slice v.A4 c.blocks.length v.c4, .string (str c.cls)] 26) = w1 at hblk hm0 ⊢
  generalize w.heap.size = g at hblk HF
  have HBK := Lib.hid hblk
  have HM0 := Lib.hid hm0
  have HSZ := Lib.hid (size_any _ c (Nat.le_refl _) w1 cs 400 (HC.out.keep hm0))
  rw [HV.out] at HSZ
  unfold codeArr at HSZ
  obtain ⟨k0, k1, k2, k3, k4, k5⟩ := code_cells hblk
  clear hblk hm0 hW
  refine sl_nil (wp_seq (wp_region_lit ?_))
  refine sl_op HF rfl rfl (by decide) ?_; intro K hK; have e1 := HF.see 1 rfl; go_wp2_with fail; clear e1 HF; intro _ HF
  refine sl_op HF rfl rfl (by decide) ?_; intro K hK; have e3 := HF.see 3 rfl; go_wp2_with fail
  refine HSZ.out.mono ?_
  rintro e w2 ⟨⟨n, rfl⟩, hm2⟩
  have HM2 := Lib.hid (HM0.out.trans hm2)
  have hb2 := HBK.out.keep hm2 id
  have HDP := Lib.hid (depth_any _ c (Nat.le_refl _) w2 cs 60 (Nat.le_refl _) (HC.out.keep HM2.out))
  rw [HV.out] at HDP
  unfold codeArr at HDP
  clear hm2 k0 k1 k2 k3 k4 k5
  go_wp2_with fail; clear e3 HF; intro _ HF
  obtain ⟨k0, k1, k2, k3, k4, k5⟩ := code_cells hb2
  clear hb2
  rcases hn : decide (n < 400) with _ | _
  · skip
    refine sl_op HF rfl rfl (by decide) ?_; intro K hK; have e4 := HF.see 4 rfl; go_wp2_with fail; clear e4 HF; intro _ HF
    refine sl_move HF rfl rfl (.inl rfl) (by decide) rfl ?_; clear HF; intro _ HF
    refine sl_skip HF rfl rfl rfl rfl (by decide) ?_; clear HF; intro _ HF
    refine sl_skip HF rfl rfl rfl rfl (by decide) ?_; clear HF; intro _ HF
    refine sl_skip HF rfl rfl rfl rfl (by decide) ?_; clear HF; intro _ HF
    refine sl_op HF rfl rfl (by decide) ?_; intro K hK; have e6 := HF.see 6 rfl; have e9 := HF.see 9 rfl; go_wp2_with fail; clear e6 e9 HF; intro _ HF
    refine sl_move HF rfl rfl (.inr rfl) (by decide) rfl ?_; clear HF; intro _ HF
    refine sl_nil (wp_ret ?_)
    exact sl_ret1 HF rfl rfl ⟨⟨false, rfl, fun h => by cases h⟩, HM2.out⟩
  · skip
    refine sl_op HF rfl rfl (by decide) ?_; intro K hK; have e4 := HF.see 4 rfl; go_wp2_with fail; clear e4 HF; intro _ HF
    refine sl_move HF rfl rfl (.inl rfl) (by decide) rfl ?_; clear HF; intro _ HF
    refine sl_want HF rfl rfl rfl rfl (by decide) ?_; intro K hK; have e1 := HF.see 1 rfl; go_wp2_with fail; clear e1 HF; intro _ HF
    refine sl_want HF rfl rfl rfl rfl (by decide) ?_; intro K hK; have e7 := HF.see 7 rfl; go_wp2_with fail
    refine HDP.out.mono ?_
    rintro e w3 ⟨rfl, hm3⟩
    have HM3 := Lib.hid (HM2.out.trans hm3)
    obtain ⟨d, hd⟩ : ∃ d, d = min c.deep 60 := ⟨_, rfl⟩
    rw [← hd]
    have HD := Lib.hid hd
    clear hm3 hd k0 k1 k2 k3 k4 k5 hn
    go_wp2_with fail; clear e7 HF; intro _ HF
    rcases hn : decide ((d : Int) < 60) with _ | _
    · skip
      refine sl_want HF rfl rfl rfl rfl (by decide) ?_; intro K hK; have e8 := HF.see 8 rfl; go_wp2_with fail; clear e8 HF; intro _ HF
      refine sl_op HF rfl rfl (by decide) ?_; intro K hK; have e6 := HF.see 6 rfl; have e9 := HF.see 9 rfl; go_wp2_with fail; clear e6 e9 HF; intro _ HF
      refine sl_move HF rfl rfl (.inr rfl) (by decide) rfl ?_; clear HF; intro _ HF
      refine sl_nil (wp_ret ?_)
      exact sl_ret1 HF rfl rfl ⟨⟨_, rfl, fun h => by cases h⟩, HM3.out⟩
    · skip
      refine sl_want HF rfl rfl rfl rfl (by decide) ?_; intro K hK; have e8 := HF.see 8 rfl; go_wp2_with fail; clear e8 HF; intro _ HF
      refine sl_op HF rfl rfl (by decide) ?_; intro K hK; have e6 := HF.see 6 rfl; have e9 := HF.see 9 rfl; go_wp2_with fail; clear e6 e9 HF; intro _ HF
      refine sl_move HF rfl rfl (.inr rfl) (by decide) rfl ?_; clear HF; intro _ HF
      refine sl_nil (wp_ret ?_)
      exact sl_ret1 HF rfl rfl ⟨⟨_, rfl, fun _ => by have := HD.out; simp at hn; omega⟩, HM3.out⟩
end Go.Proofs.YtefloadjolpgbaaDoor

namespace Go.Proofs.YtefloadjolpgbaaDoor
open Go.RowKit

structure PhSt (W W' : World) (k : Nat) (h : Hist) (w : World) : Prop where
  s0 : k = 0 → w = W
  s1 : k = 1 → w = W'
theorem PhSt.init (W W' : World) (h : Hist) : PhSt W W' 0 h W := ⟨fun _ => rfl, fun h => absurd h (by decide)⟩
theorem PhSt.done (W W' : World) (h : Hist) : PhSt W W' 1 h W' := ⟨fun h => absurd h (by decide), fun _ => rfl⟩
/-- A region with one call in it, whose result is known. -/
structure PhCl (W : World) (v : Value) (k : Nat) (h : Hist) (w : World) : Prop where
  s0 : k = 0 → w = W
  s1 : k = 1 → Mod Nil W w ∧ h 0 = v
end Go.Proofs.YtefloadjolpgbaaDoor
