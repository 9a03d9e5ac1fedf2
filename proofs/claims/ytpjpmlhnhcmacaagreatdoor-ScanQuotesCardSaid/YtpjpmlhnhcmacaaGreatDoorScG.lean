/- The document's Same, walked whole. -/
import Derived.Test.YtpjpmlhnhcmacaaGreatDoorScE
namespace Go.Proofs.YtpjpmlhnhcmacaaGreatDoor
open Go.RowKit

def SameI (w0 : World) (A B : Option Addr) (n cA cB : Nat) (pl : Bool) (ts us : List (Tok × Nat)) (a : Act) (w : World) : Prop :=
  ∃ (k : Nat) (v6 : Value), k ≤ n ∧ Sl 72 [(0, .slice A n cA), (1, .slice B n cB), (2, .bool pl), (6, v6), (7, .int .i64 k)] a ∧ (∀ i p q, i < k → ts[i]? = some p → us[i]? = some q → tokEq pl p q = true) ∧ Mod Nil w0 w

set_option maxHeartbeats 1600000 in
set_option maxRecDepth 100000 in
theorem same_any (S : Nat → Prop) (A B : Option Addr) (n m cA cB : Nat) (ts us : List (Tok × Nat)) (pl : Bool) (w : World) (hn : ts.length = n) (hm : us.length = m) (hbig : n ≤ 100000) (hbig2 : m ≤ 100000)
    (hA : Rd S w A (tkCells ts)) (hB : Rd S w B (tkCells us)) :
    Calls Tryz.prog 15 #[.slice A n cA, .slice B m cB, .bool pl] w fun e w' => e = .returned (.bool (sameL pl ts us)) ∧ Mod Nil w w' := by
  have HA := Lib.hid hA
  have HB := Lib.hid hB
  have HN := Lib.hid hn
  have HM := Lib.hid hm
  clear hA hB hn hm
  refine sl_enter (n := 72) Tryz.func15 rfl rfl (by simp) fun a HF => ?_
  refine wp_seq (wp_region_lit ?_)
  refine sl_const HF rfl rfl (.inr rfl) (by decide) ?_; clear HF; intro _ HF
  refine sl_nil (wp_seq (wp_seq (wp_region_lit ?_)))
  by_cases hnm : n = m
  · subst hnm
    refine sl_move HF rfl rfl (.inl rfl) (by decide) rfl ?_; clear HF; intro _ HF
    refine sl_op HF rfl rfl (by decide) ?_; intro K hK; have e8 := HF.see 8 rfl; go_wp2_with fail; clear e8 HF; intro _ HF
    refine sl_move HF rfl rfl (.inl rfl) (by decide) rfl ?_; clear HF; intro _ HF
    refine sl_op HF rfl rfl (by decide) ?_; intro K hK; have e10 := HF.see 10 rfl; go_wp2_with fail; clear e10 HF; intro _ HF
    refine sl_op HF rfl rfl (by decide) ?_; intro K hK; have e9 := HF.see 9 rfl; have e11 := HF.see 11 rfl; go_wp2_with fail; clear e9 e11 HF; intro _ HF
    refine sl_nil (wp_cond_false (HF.at 12 rfl) (wp_skip (sl_then ?_)))
    refine wp_seq (wp_seq (wp_region_lit ?_))
    refine sl_const HF rfl rfl (.inr rfl) (by decide) ?_; clear HF; intro _ HF
    refine sl_nil (wp_block (wp_loop (SameI w A B n cA cB pl ts us) (fun a _ => n - (intOf (a.eval (.tmp 7))).toNat) ?_ ?_))
    · exact ⟨0, _, Nat.zero_le _, HF.keep [0, 1, 2, 6, 7], fun i _ _ hi => absurd hi (by omega), Mod.refl _ _⟩
    · clear HF
      rintro a2 w2 ⟨k, v6, hk, HF, hall, hmod⟩
      have hmu : n - (intOf (a2.eval (.tmp 7))).toNat = n - k := by rw [HF.at 7 rfl]; simp [intOf]
      have HMU := Lib.hid hmu
      have HALL := Lib.hid hall
      have HMOD := Lib.hid hmod
      clear hmu hall hmod
      by_cases hlt : k < n
      · refine wp_seq (wp_seq (wp_region_lit ?_))
        refine sl_move HF rfl rfl (.inl rfl) (by decide) rfl ?_; clear HF; intro _ HF
        refine sl_move HF rfl rfl (.inl rfl) (by decide) rfl ?_; clear HF; intro _ HF
        refine sl_op HF rfl rfl (by decide) ?_; intro K hK; have e14 := HF.see 14 rfl; go_wp2_with fail; clear e14 HF; intro _ HF
        refine sl_op HF rfl rfl (by decide) ?_; intro K hK; have e13 := HF.see 13 rfl; have e15 := HF.see 15 rfl; go_wp2_with fail; clear e13 e15 HF; intro _ HF
        refine sl_nil (wp_cond_true (HF.at 16 rfl) (wp_skip (sl_then ?_)))
        obtain ⟨p, hp⟩ : ∃ p, ts[k]? = some p := ⟨_, List.getElem?_eq_getElem (by rw [HN.out]; omega)⟩
        obtain ⟨q, hq⟩ : ∃ q, us[k]? = some q := ⟨_, List.getElem?_eq_getElem (by rw [HM.out]; omega)⟩
        obtain ⟨ad, rfl, hadl, ha0, ha1, ha2, ha3⟩ := (HA.out.keep0 HMOD.out).tok hp
        obtain ⟨bd, rfl, hbdl, hb0, hb1, hb2, hb3⟩ := (HB.out.keep0 HMOD.out).tok hq
        have HBAD := Lib.hid (show tokEq pl p q = false → sameL pl ts us = false from fun h => by
          rw [Bool.eq_false_iff]
          intro hs
          unfold sameL at hs
          simp only [Bool.and_eq_true, List.all_eq_true, List.mem_range] at hs
          have := hs.2 k (by rw [HN.out]; omega)
          rw [hp, hq] at this
          simp only at this
          rw [h] at this
          cases this)
        have HGOOD := Lib.hid (show tokEq pl p q = true → ∀ i p q, i < k + 1 → ts[i]? = some p → us[i]? = some q → tokEq pl p q = true from fun h i p' q' hi hp' hq' => by
          rcases Nat.lt_or_ge i k with h1 | h1
          · exact HALL.out i p' q' h1 hp' hq'
          · have : i = k := by omega
            subst this
            rw [hp] at hp'
            rw [hq] at hq'
            cases hp'
            cases hq'
            exact h)
        clear hp hq
        refine wp_seq (wp_block (wp_seq ?_))
        refine same_round (HF.keep [0, 1, 2, 6, 7]) hlt hbig hadl hbdl ha0 ha1 ha2 ha3 hb0 hb1 hb2 hb3 fun a3 HF => ?_
        clear ha0 ha1 ha2 ha3 hb0 hb1 hb2 hb3
        refine sl_then ?_
        rcases hte : tokEq pl p q with _ | _
        · rw [hte] at HF
          have HX := Lib.hid (HBAD.out hte)
          clear hte
          refine wp_cond_true (HF.at 71 rfl) (wp_seq (wp_region_lit ?_))
          refine sl_const HF rfl rfl (.inr rfl) (by decide) ?_; clear HF; intro _ HF
          refine sl_nil (wp_ret ?_)
          dsimp only [Exit.then, Exit.inBlock]
          exact sl_ret1 HF rfl rfl ⟨by rw [HX.out], HMOD.out.drew⟩
        · rw [hte] at HF
          have HX := Lib.hid (HGOOD.out hte)
          clear hte
          refine wp_cond_false (HF.at 71 rfl) (wp_skip ?_)
          refine sl_blk (wp_region_lit ?_)
          refine sl_move HF rfl rfl (.inl rfl) (by decide) rfl ?_; clear HF; intro _ HF
          refine sl_op HF rfl rfl (by decide) ?_; intro K hK; have e17 := HF.see 17 rfl; go_wp2_with fail; clear e17 HF; intro _ HF
          refine sl_move HF rfl rfl (.inr rfl) (by decide) rfl ?_; clear HF; intro _ HF
          refine wpList_nil ?_
          show _ ∧ _ < n - _
          rw [HMU.out]
          refine ⟨⟨k + 1, v6, by omega, ?_, HX.out, HMOD.out.drew⟩, ?_⟩
          · have e : Value.int .i64 ((k : Int) + 1) = .int .i64 ((k + 1 : Nat) : Int) := by simp
            rw [← e]
            exact HF.keep [0, 1, 2, 6, 7]
          · simp only [HF.at 7 rfl, intOf]
            omega
      · obtain rfl : k = n := by omega
        have HX := Lib.hid (show sameL pl ts us = true by
          unfold sameL
          simp only [Bool.and_eq_true, List.all_eq_true, List.mem_range, decide_eq_true_eq]
          refine ⟨by rw [HN.out, HM.out], fun i hi => ?_⟩
          rcases h1 : ts[i]? with _ | p
          · rfl
          · rcases h2 : us[i]? with _ | q
            · rfl
            · exact HALL.out i p q (by rw [HN.out] at hi; exact hi) h1 h2)
        refine wp_seq (wp_seq (wp_region_lit ?_))
        refine sl_move HF rfl rfl (.inl rfl) (by decide) rfl ?_; clear HF; intro _ HF
        refine sl_move HF rfl rfl (.inl rfl) (by decide) rfl ?_; clear HF; intro _ HF
        refine sl_op HF rfl rfl (by decide) ?_; intro K hK; have e14 := HF.see 14 rfl; go_wp2_with fail; clear e14 HF; intro _ HF
        refine sl_op HF rfl rfl (by decide) ?_; intro K hK; have e13 := HF.see 13 rfl; have e15 := HF.see 15 rfl; go_wp2_with fail; clear e13 e15 HF; intro _ HF
        refine sl_nil (wp_cond_false (HF.at 16 rfl) (wp_exit ?_))
        dsimp only [Exit.then]
        refine sl_exit (sl_then (wp_seq (wp_region_lit ?_)))
        refine sl_const HF rfl rfl (.inr rfl) (by decide) ?_; clear HF; intro _ HF
        refine sl_nil (wp_ret ?_)
        exact sl_ret1 HF rfl rfl ⟨by rw [HX.out], HMOD.out⟩
  · have hnm' : ((n : Int) == m) = false := by simp; omega
    have hnm2 : ((n : Int) != m) = true := by rw [bne, hnm']; rfl
    have HX := Lib.hid (show sameL pl ts us = false by
      unfold sameL
      rw [HN.out, HM.out]
      simp [hnm])
    refine sl_move HF rfl rfl (.inl rfl) (by decide) rfl ?_; clear HF; intro _ HF
    refine sl_op HF rfl rfl (by decide) ?_; intro K hK; have e8 := HF.see 8 rfl; go_wp2_with fail; clear e8 HF; intro _ HF
    refine sl_move HF rfl rfl (.inl rfl) (by decide) rfl ?_; clear HF; intro _ HF
    refine sl_op HF rfl rfl (by decide) ?_; intro K hK; have e10 := HF.see 10 rfl; go_wp2_with fail; clear e10 HF; intro _ HF
    refine sl_op HF rfl rfl (by decide) ?_; intro K hK; have e9 := HF.see 9 rfl; have e11 := HF.see 11 rfl; go_wp2_with fail; clear e9 e11 HF; intro _ HF
    refine sl_nil (wp_cond_true (HF.at 12 rfl) (wp_seq (wp_region_lit ?_)))
    refine sl_const HF rfl rfl (.inr rfl) (by decide) ?_; clear HF; intro _ HF
    refine sl_nil (wp_ret ?_)
    dsimp only [Exit.then]
    exact sl_ret1 HF rfl rfl ⟨by rw [HX.out], Mod.refl _ _⟩
end Go.Proofs.YtpjpmlhnhcmacaaGreatDoor
