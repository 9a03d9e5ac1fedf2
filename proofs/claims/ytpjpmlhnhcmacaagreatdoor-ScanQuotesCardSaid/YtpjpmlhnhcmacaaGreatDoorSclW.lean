/- The law ScanAlls, walked. -/
import Derived.Test.YtpjpmlhnhcmacaaGreatDoorRnJ
import Derived.Test.YtpjpmlhnhcmacaaGreatDoorScV
namespace Go.Proofs.YtpjpmlhnhcmacaaGreatDoor
open Go.RowKit

noncomputable def allsBody : Code := (Tryz.f3.body).getD .skip

def codeOf (r : Except (Nat × Nat) (List (Tok × Nat))) : Nat := match r with | .error (c, _) => c | .ok _ => 0
def placeOf (r : Except (Nat × Nat) (List (Tok × Nat))) : Nat := match r with | .error (_, p) => p | .ok _ => 0
theorem AllV.code {B : Nat} {r : Except (Nat × Nat) (List (Tok × Nat))} {v : Value} {c p : Nat} {w : World} (h : AllV B r v c p w) : c = codeOf r ∧ p = placeOf r := by
  unfold AllV at h
  rcases r with ⟨c', p'⟩ | ts
  · exact ⟨h.2.1, h.2.2⟩
  · exact ⟨h.1, h.2.1⟩
def toksOf (r : Except (Nat × Nat) (List (Tok × Nat))) : List (Tok × Nat) := match r with | .error _ => [] | .ok ts => ts
theorem AllV.rd {B : Nat} {r : Except (Nat × Nat) (List (Tok × Nat))} {v : Value} {c p : Nat} {w : World} (h : AllV B r v c p w) : ∃ A cp, v = .slice A (toksOf r).length cp ∧ Rd All w A (tkCells (toksOf r)) := by
  unfold AllV at h
  rcases r with ⟨c', p'⟩ | ts
  · exact ⟨none, 0, h.1, Rd.nil _ _ _⟩
  · rcases Nat.eq_zero_or_pos ts.length with h0 | h0
    · obtain ⟨A, cp, hv, _⟩ := own_slice h.2.2
      have : ts = [] := List.eq_nil_of_length_eq_zero h0
      subst this
      exact ⟨A, cp, hv, Rd.nil _ _ _⟩
    · obtain ⟨ad, cp, hv, _, _, hr⟩ := own_rd h.2.2 h0
      exact ⟨some ad, cp, hv, hr⟩
theorem toks_len {l : List UInt8} (hl : l.length ≤ 5000) : (toksOf (allR l)).length ≤ 5001 := by
  rcases h : allR l with e | ts
  · simp [toksOf]
  · have := (allR_bd h).1
    simp only [toksOf]
    omega

set_option maxHeartbeats 3200000 in
set_option maxRecDepth 100000 in
theorem alls_rest {a : Act} {w0 w : World} {l : List UInt8} (hl : l.length ≤ 5000)
    (HF : Sl 52 [(0, .string (str l))] a) (HM : Hid (Mod Nil w0 w)) :
    (part [1, 1] allsBody).wp Tryz.prog (bodyPost Tryz.prog Tryz.f3 (fun e w' => e = .returned (.bool true) ∧ Mod Nil w0 w')) a w := by
  conv => arg 2; whnf
  refine wp_seq (wp_region_lit ?_)
  refine sl_move HF rfl rfl (.inl rfl) (by decide) rfl ?_; clear HF; intro _ HF
  refine sl_op HF rfl rfl (by decide) ?_; intro K hK; have e28 := HF.see 28 rfl; go_wp2_with fail
  refine (scAll_any l (by omega) _).mono ?_
  rintro e w2 ⟨hr, hm2⟩
  obtain ⟨v1, c1, p1, rfl, hv1⟩ := hr.vals
  have HV1 := Lib.hid hv1
  have HM2 := Lib.hid (HM.out.trans hm2)
  clear hr hm2 hv1
  go_wp2_with fail; clear e28 HF; intro _ HF
  refine sl_move HF rfl rfl (.inl rfl) (by decide) rfl ?_; clear HF; intro _ HF
  refine sl_op HF rfl rfl (by decide) ?_; intro K hK; have e27 := HF.see 27 rfl; go_wp2_with fail; clear e27 HF; intro _ HF
  refine sl_op HF rfl rfl (by decide) ?_; intro K hK; have e27 := HF.see 27 rfl; go_wp2_with fail; clear e27 HF; intro _ HF
  refine sl_op HF rfl rfl (by decide) ?_; intro K hK; have e27 := HF.see 27 rfl; go_wp2_with fail; clear e27 HF; intro _ HF
  refine sl_move HF rfl rfl (.inr rfl) (by decide) rfl ?_; clear HF; intro _ HF
  refine sl_move HF rfl rfl (.inr rfl) (by decide) rfl ?_; clear HF; intro _ HF
  refine sl_move HF rfl rfl (.inr rfl) (by decide) rfl ?_; clear HF; intro _ HF
  refine sl_nil (wp_seq (wp_region_lit ?_))
  refine sl_move HF rfl rfl (.inl rfl) (by decide) rfl ?_; clear HF; intro _ HF
  refine sl_op HF rfl rfl (by decide) ?_; intro K hK; have e34 := HF.see 34 rfl; go_wp2_with fail
  refine (rAll_any l hl _).mono ?_
  rintro e w3 ⟨hr, hm3⟩
  obtain ⟨v2, c2, p2, rfl, hv2⟩ := hr.vals
  have HV2 := Lib.hid hv2
  have HM3 := Lib.hid (HM2.out.trans hm3)
  have HV1' := Lib.hid (HV1.out.keep hm3)
  clear hr hm3 hv2
  obtain rfl : c1 = c2 := (HV1.out.code.1).trans (HV2.out.code.1).symm
  obtain rfl : p1 = p2 := (HV1.out.code.2).trans (HV2.out.code.2).symm
  clear HV1
  go_wp2_with fail; clear e34 HF; intro _ HF
  refine sl_move HF rfl rfl (.inl rfl) (by decide) rfl ?_; clear HF; intro _ HF
  refine sl_op HF rfl rfl (by decide) ?_; intro K hK; have e33 := HF.see 33 rfl; go_wp2_with fail; clear e33 HF; intro _ HF
  refine sl_op HF rfl rfl (by decide) ?_; intro K hK; have e33 := HF.see 33 rfl; go_wp2_with fail; clear e33 HF; intro _ HF
  refine sl_op HF rfl rfl (by decide) ?_; intro K hK; have e33 := HF.see 33 rfl; go_wp2_with fail; clear e33 HF; intro _ HF
  refine sl_move HF rfl rfl (.inr rfl) (by decide) rfl ?_; clear HF; intro _ HF
  refine sl_move HF rfl rfl (.inr rfl) (by decide) rfl ?_; clear HF; intro _ HF
  refine sl_move HF rfl rfl (.inr rfl) (by decide) rfl ?_; clear HF; intro _ HF
  refine sl_nil (wp_seq (wp_region_lit ?_))
  obtain ⟨A, cA, rfl, hA⟩ := HV1'.out.rd
  obtain ⟨B, cB, rfl, hB⟩ := HV2.out.rd
  have hlen := toks_len hl
  have hs := same_any All A B _ _ cA cB (toksOf (allR l)) (toksOf (allR l)) true w3 rfl rfl (by omega) (by omega) hA hB
  rw [sameL_refl] at hs
  have HS := Lib.hid hs
  generalize (toksOf (allR l)).length = n at HF HS
  clear hA hB hs hlen
  refine sl_move HF rfl rfl (.inl rfl) (by decide) rfl ?_; clear HF; intro _ HF
  refine sl_move HF rfl rfl (.inl rfl) (by decide) rfl ?_; clear HF; intro _ HF
  refine sl_op HF rfl rfl (by decide) ?_; intro K hK; have e39 := HF.see 39 rfl; have e40 := HF.see 40 rfl; go_wp2_with fail; clear e39 e40 HF; intro _ HF
  refine sl_move HF rfl rfl (.inl rfl) (by decide) rfl ?_; clear HF; intro _ HF
  refine sl_want HF rfl rfl rfl rfl (by decide) ?_; intro K hK; have e5 := HF.see 5 rfl; go_wp2_with fail; clear e5 HF; intro _ HF
  refine sl_want HF rfl rfl rfl rfl (by decide) ?_; intro K hK; have e8 := HF.see 8 rfl; go_wp2_with fail; clear e8 HF; intro _ HF
  refine sl_want HF rfl rfl rfl rfl (by decide) ?_; intro K hK; have e43 := HF.see 43 rfl; have e44 := HF.see 44 rfl; go_wp2_with fail; clear e43 e44 HF; intro _ HF
  refine sl_op HF rfl rfl (by decide) ?_; intro K hK; have e42 := HF.see 42 rfl; have e45 := HF.see 45 rfl; go_wp2_with fail; clear e42 e45 HF; intro _ HF
  refine sl_move HF rfl rfl (.inl rfl) (by decide) rfl ?_; clear HF; intro _ HF
  refine sl_want HF rfl rfl rfl rfl (by decide) ?_; intro K hK; have e3 := HF.see 3 rfl; go_wp2_with fail; clear e3 HF; intro _ HF
  refine sl_want HF rfl rfl rfl rfl (by decide) ?_; intro K hK; have e6 := HF.see 6 rfl; go_wp2_with fail; clear e6 HF; intro _ HF
  refine sl_want HF rfl rfl rfl rfl (by decide) ?_; intro K hK; have e48 := HF.see 48 rfl; have e49 := HF.see 49 rfl; go_wp2_with fail
  refine HS.out.mono ?_
  rintro e w4 ⟨rfl, hm4⟩
  have HM4 := Lib.hid (HM3.out.trans hm4)
  clear hm4
  go_wp2_with fail; clear e48 e49 HF; intro _ HF
  refine sl_op HF rfl rfl (by decide) ?_; intro K hK; have e47 := HF.see 47 rfl; have e50 := HF.see 50 rfl; go_wp2_with fail; clear e47 e50 HF; intro _ HF
  refine sl_move HF rfl rfl (.inr rfl) (by decide) rfl ?_; clear HF; intro _ HF
  refine sl_nil (wp_ret ?_)
  exact sl_ret1 HF rfl rfl ⟨rfl, HM4.out⟩

set_option maxHeartbeats 3200000 in
set_option maxRecDepth 100000 in
theorem scanAlls_any (l : List UInt8) (w : World) (hl : l.length ≤ 9223372036854775807) :
    Calls Tryz.prog 3 #[.string (str l)] w fun e w' => e = .returned (.bool true) ∧ Mod Nil w w' := by
  have hsz := str_size l
  refine sl_enter (n := 52) (fn := Tryz.f3) (c := allsBody) Tryz.func3 rfl rfl (by simp) fun a HF => ?_
  conv => arg 2; whnf
  refine wp_seq (wp_region_lit ?_)
  refine sl_const HF rfl rfl (.inr rfl) (by decide) ?_; clear HF; intro _ HF
  refine sl_nil (wp_seq (wp_seq (wp_region_lit ?_)))
  refine sl_op HF rfl rfl (by decide) ?_; intro K hK; go_wp2_with fail
  refine (awake12_any _).mono ?_
  rintro e w1 ⟨rfl, hm1⟩
  have HM1 := Lib.hid hm1
  clear hm1
  go_wp2_with fail; clear HF; intro _ HF
  by_cases h1 : 1000 < l.length
  · have g1 : decide ((1000 : Int) < (l.length : Int)) = true := by simp; omega
    by_cases h4 : l.length ≤ 4000
    · have g2 : decide ((l.length : Int) ≤ 4000) = true := by simp; omega
      clear h1 h4
      refine sl_op HF rfl rfl (by decide) ?_; intro K hK; have e9 := HF.see 9 rfl; go_wp2_with fail; clear e9 HF; intro _ HF
      refine sl_move HF rfl rfl (.inl rfl) (by decide) rfl ?_; clear HF; intro _ HF
      refine sl_want HF rfl rfl rfl rfl (by decide) ?_; intro K hK; have e0 := HF.see 0 rfl; go_wp2_with fail; clear e0 HF; intro _ HF
      refine sl_want HF rfl rfl rfl rfl (by decide) ?_; intro K hK; have e12 := HF.see 12 rfl; go_wp2_with fail; clear e12 HF; intro _ HF
      refine sl_want HF rfl rfl rfl rfl (by decide) ?_; intro K hK; have e13 := HF.see 13 rfl; go_wp2_with fail; clear e13 HF; intro _ HF
      refine sl_want HF rfl rfl rfl rfl (by decide) ?_; intro K hK; have e14 := HF.see 14 rfl; go_wp2_with fail; clear e14 HF; intro _ HF
      refine sl_want HF rfl rfl rfl rfl (by decide) ?_; intro K hK; have e0 := HF.see 0 rfl; go_wp2_with fail; clear e0 HF; intro _ HF
      refine sl_want HF rfl rfl rfl rfl (by decide) ?_; intro K hK; have e16 := HF.see 16 rfl; go_wp2_with fail; clear e16 HF; intro _ HF
      refine sl_want HF rfl rfl rfl rfl (by decide) ?_; intro K hK; have e17 := HF.see 17 rfl; go_wp2_with fail; clear e17 HF; intro _ HF
      refine sl_want HF rfl rfl rfl rfl (by decide) ?_; intro K hK; have e15 := HF.see 15 rfl; have e18 := HF.see 18 rfl; go_wp2_with fail; clear e15 e18 HF; intro _ HF
      refine sl_op HF rfl rfl (by decide) ?_; intro K hK; have e11 := HF.see 11 rfl; have e19 := HF.see 19 rfl; go_wp2_with fail; clear e11 e19 HF; intro _ HF
      refine sl_move HF rfl rfl (.inl rfl) (by decide) rfl ?_; clear HF; intro _ HF
      refine sl_skip HF rfl rfl rfl rfl (by decide) ?_; clear HF; intro _ HF
      refine sl_skip HF rfl rfl rfl rfl (by decide) ?_; clear HF; intro _ HF
      refine sl_skip HF rfl rfl rfl rfl (by decide) ?_; clear HF; intro _ HF
      refine sl_op HF rfl rfl (by decide) ?_; intro K hK; have e21 := HF.see 21 rfl; have e24 := HF.see 24 rfl; go_wp2_with fail; clear e21 e24 HF; intro _ HF
      refine sl_nil (wp_cond_true (HF.at 25 rfl) (wp_seq (wp_region_lit ?_)))
      refine sl_op HF rfl rfl (by decide) ?_; intro K hK; go_wp2_with fail
      refine (awake12_any _).mono ?_
      rintro e w2 ⟨rfl, hm2⟩
      have HM2 := Lib.hid (HM1.out.trans hm2)
      clear hm2
      go_wp2_with fail; clear HF; intro _ HF
      refine sl_move HF rfl rfl (.inr rfl) (by decide) rfl ?_; clear HF; intro _ HF
      refine sl_nil (wp_ret ?_)
      dsimp only [Exit.then]
      exact sl_ret1 HF rfl rfl ⟨rfl, HM2.out⟩
    · have g2 : decide ((l.length : Int) ≤ 4000) = false := by simp; omega
      by_cases h5 : 5000 < l.length
      · have g3 : decide ((5000 : Int) < (l.length : Int)) = true := by simp; omega
        clear h1 h4 h5
        refine sl_op HF rfl rfl (by decide) ?_; intro K hK; have e9 := HF.see 9 rfl; go_wp2_with fail; clear e9 HF; intro _ HF
        refine sl_move HF rfl rfl (.inl rfl) (by decide) rfl ?_; clear HF; intro _ HF
        refine sl_want HF rfl rfl rfl rfl (by decide) ?_; intro K hK; have e0 := HF.see 0 rfl; go_wp2_with fail; clear e0 HF; intro _ HF
        refine sl_want HF rfl rfl rfl rfl (by decide) ?_; intro K hK; have e12 := HF.see 12 rfl; go_wp2_with fail; clear e12 HF; intro _ HF
        refine sl_want HF rfl rfl rfl rfl (by decide) ?_; intro K hK; have e13 := HF.see 13 rfl; go_wp2_with fail; clear e13 HF; intro _ HF
        refine sl_want HF rfl rfl rfl rfl (by decide) ?_; intro K hK; have e14 := HF.see 14 rfl; go_wp2_with fail; clear e14 HF; intro _ HF
        refine sl_want HF rfl rfl rfl rfl (by decide) ?_; intro K hK; have e0 := HF.see 0 rfl; go_wp2_with fail; clear e0 HF; intro _ HF
        refine sl_want HF rfl rfl rfl rfl (by decide) ?_; intro K hK; have e16 := HF.see 16 rfl; go_wp2_with fail; clear e16 HF; intro _ HF
        refine sl_want HF rfl rfl rfl rfl (by decide) ?_; intro K hK; have e17 := HF.see 17 rfl; go_wp2_with fail; clear e17 HF; intro _ HF
        refine sl_want HF rfl rfl rfl rfl (by decide) ?_; intro K hK; have e15 := HF.see 15 rfl; have e18 := HF.see 18 rfl; go_wp2_with fail; clear e15 e18 HF; intro _ HF
        refine sl_op HF rfl rfl (by decide) ?_; intro K hK; have e11 := HF.see 11 rfl; have e19 := HF.see 19 rfl; go_wp2_with fail; clear e11 e19 HF; intro _ HF
        refine sl_move HF rfl rfl (.inl rfl) (by decide) rfl ?_; clear HF; intro _ HF
        refine sl_want HF rfl rfl rfl rfl (by decide) ?_; intro K hK; have e0 := HF.see 0 rfl; go_wp2_with fail; clear e0 HF; intro _ HF
        refine sl_want HF rfl rfl rfl rfl (by decide) ?_; intro K hK; have e22 := HF.see 22 rfl; go_wp2_with fail; clear e22 HF; intro _ HF
        refine sl_want HF rfl rfl rfl rfl (by decide) ?_; intro K hK; have e23 := HF.see 23 rfl; go_wp2_with fail; clear e23 HF; intro _ HF
        refine sl_op HF rfl rfl (by decide) ?_; intro K hK; have e21 := HF.see 21 rfl; have e24 := HF.see 24 rfl; go_wp2_with fail; clear e21 e24 HF; intro _ HF
        refine sl_nil (wp_cond_true (HF.at 25 rfl) (wp_seq (wp_region_lit ?_)))
        refine sl_op HF rfl rfl (by decide) ?_; intro K hK; go_wp2_with fail
        refine (awake12_any _).mono ?_
        rintro e w2 ⟨rfl, hm2⟩
        have HM2 := Lib.hid (HM1.out.trans hm2)
        clear hm2
        go_wp2_with fail; clear HF; intro _ HF
        refine sl_move HF rfl rfl (.inr rfl) (by decide) rfl ?_; clear HF; intro _ HF
        refine sl_nil (wp_ret ?_)
        dsimp only [Exit.then]
        exact sl_ret1 HF rfl rfl ⟨rfl, HM2.out⟩
      · have g3 : decide ((5000 : Int) < (l.length : Int)) = false := by simp; omega
        have hl5 : l.length ≤ 5000 := by omega
        clear h1 h4 h5
        refine sl_op HF rfl rfl (by decide) ?_; intro K hK; have e9 := HF.see 9 rfl; go_wp2_with fail; clear e9 HF; intro _ HF
        refine sl_move HF rfl rfl (.inl rfl) (by decide) rfl ?_; clear HF; intro _ HF
        refine sl_want HF rfl rfl rfl rfl (by decide) ?_; intro K hK; have e0 := HF.see 0 rfl; go_wp2_with fail; clear e0 HF; intro _ HF
        refine sl_want HF rfl rfl rfl rfl (by decide) ?_; intro K hK; have e12 := HF.see 12 rfl; go_wp2_with fail; clear e12 HF; intro _ HF
        refine sl_want HF rfl rfl rfl rfl (by decide) ?_; intro K hK; have e13 := HF.see 13 rfl; go_wp2_with fail; clear e13 HF; intro _ HF
        refine sl_want HF rfl rfl rfl rfl (by decide) ?_; intro K hK; have e14 := HF.see 14 rfl; go_wp2_with fail; clear e14 HF; intro _ HF
        refine sl_want HF rfl rfl rfl rfl (by decide) ?_; intro K hK; have e0 := HF.see 0 rfl; go_wp2_with fail; clear e0 HF; intro _ HF
        refine sl_want HF rfl rfl rfl rfl (by decide) ?_; intro K hK; have e16 := HF.see 16 rfl; go_wp2_with fail; clear e16 HF; intro _ HF
        refine sl_want HF rfl rfl rfl rfl (by decide) ?_; intro K hK; have e17 := HF.see 17 rfl; go_wp2_with fail; clear e17 HF; intro _ HF
        refine sl_want HF rfl rfl rfl rfl (by decide) ?_; intro K hK; have e15 := HF.see 15 rfl; have e18 := HF.see 18 rfl; go_wp2_with fail; clear e15 e18 HF; intro _ HF
        refine sl_op HF rfl rfl (by decide) ?_; intro K hK; have e11 := HF.see 11 rfl; have e19 := HF.see 19 rfl; go_wp2_with fail; clear e11 e19 HF; intro _ HF
        refine sl_move HF rfl rfl (.inl rfl) (by decide) rfl ?_; clear HF; intro _ HF
        refine sl_want HF rfl rfl rfl rfl (by decide) ?_; intro K hK; have e0 := HF.see 0 rfl; go_wp2_with fail; clear e0 HF; intro _ HF
        refine sl_want HF rfl rfl rfl rfl (by decide) ?_; intro K hK; have e22 := HF.see 22 rfl; go_wp2_with fail; clear e22 HF; intro _ HF
        refine sl_want HF rfl rfl rfl rfl (by decide) ?_; intro K hK; have e23 := HF.see 23 rfl; go_wp2_with fail; clear e23 HF; intro _ HF
        refine sl_op HF rfl rfl (by decide) ?_; intro K hK; have e21 := HF.see 21 rfl; have e24 := HF.see 24 rfl; go_wp2_with fail; clear e21 e24 HF; intro _ HF
        refine sl_nil (wp_cond_false (HF.at 25 rfl) (wp_skip (sl_then ?_)))
        exact alls_rest hl5 (HF.keep [0]) HM1
  · have g1 : decide ((1000 : Int) < (l.length : Int)) = false := by simp; omega
    have g3 : decide ((5000 : Int) < (l.length : Int)) = false := by simp; omega
    have hl5 : l.length ≤ 5000 := by omega
    clear h1
    refine sl_op HF rfl rfl (by decide) ?_; intro K hK; have e9 := HF.see 9 rfl; go_wp2_with fail; clear e9 HF; intro _ HF
    refine sl_move HF rfl rfl (.inl rfl) (by decide) rfl ?_; clear HF; intro _ HF
    refine sl_want HF rfl rfl rfl rfl (by decide) ?_; intro K hK; have e0 := HF.see 0 rfl; go_wp2_with fail; clear e0 HF; intro _ HF
    refine sl_want HF rfl rfl rfl rfl (by decide) ?_; intro K hK; have e12 := HF.see 12 rfl; go_wp2_with fail; clear e12 HF; intro _ HF
    refine sl_want HF rfl rfl rfl rfl (by decide) ?_; intro K hK; have e13 := HF.see 13 rfl; go_wp2_with fail; clear e13 HF; intro _ HF
    refine sl_want HF rfl rfl rfl rfl (by decide) ?_; intro K hK; have e14 := HF.see 14 rfl; go_wp2_with fail; clear e14 HF; intro _ HF
    refine sl_skip HF rfl rfl rfl rfl (by decide) ?_; clear HF; intro _ HF
    refine sl_skip HF rfl rfl rfl rfl (by decide) ?_; clear HF; intro _ HF
    refine sl_skip HF rfl rfl rfl rfl (by decide) ?_; clear HF; intro _ HF
    refine sl_want HF rfl rfl rfl rfl (by decide) ?_; intro K hK; have e15 := HF.see 15 rfl; have e18 := HF.see 18 rfl; go_wp2_with fail; clear e15 e18 HF; intro _ HF
    refine sl_op HF rfl rfl (by decide) ?_; intro K hK; have e11 := HF.see 11 rfl; have e19 := HF.see 19 rfl; go_wp2_with fail; clear e11 e19 HF; intro _ HF
    refine sl_move HF rfl rfl (.inl rfl) (by decide) rfl ?_; clear HF; intro _ HF
    refine sl_want HF rfl rfl rfl rfl (by decide) ?_; intro K hK; have e0 := HF.see 0 rfl; go_wp2_with fail; clear e0 HF; intro _ HF
    refine sl_want HF rfl rfl rfl rfl (by decide) ?_; intro K hK; have e22 := HF.see 22 rfl; go_wp2_with fail; clear e22 HF; intro _ HF
    refine sl_want HF rfl rfl rfl rfl (by decide) ?_; intro K hK; have e23 := HF.see 23 rfl; go_wp2_with fail; clear e23 HF; intro _ HF
    refine sl_op HF rfl rfl (by decide) ?_; intro K hK; have e21 := HF.see 21 rfl; have e24 := HF.see 24 rfl; go_wp2_with fail; clear e21 e24 HF; intro _ HF
    refine sl_nil (wp_cond_false (HF.at 25 rfl) (wp_skip (sl_then ?_)))
    exact alls_rest hl5 (HF.keep [0]) HM1
end Go.Proofs.YtpjpmlhnhcmacaaGreatDoor
