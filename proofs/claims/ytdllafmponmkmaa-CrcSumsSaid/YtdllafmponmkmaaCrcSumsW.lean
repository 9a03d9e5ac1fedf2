/- The walk of the law CrcSums: it answers true, and turns nothing of old. -/
import Derived.Test.YtdllafmponmkmaaCrcO
namespace Go.Proofs.Ytdllafmponmkmaa
open Go.RowKit

set_option maxHeartbeats 1600000 in
set_option maxRecDepth 100000 in
theorem crcSums_walk (A B : Option Addr) (n c m d : Nat) (l k : List UInt8) (w : World) (hl : l.length = n) (hk : k.length = m) (hrl : Rd All w A (l.map bv)) (hrk : Rd All w B (k.map bv)) :
    Calls Try.prog 3 #[.slice A n c, .slice B m d] w fun e w' => e = .returned (.bool true) ∧ Mod Nil w w' := by
  have HL := Lib.hid hl
  have HK := Lib.hid hk
  have HRL := Lib.hid hrl
  have HRK := Lib.hid hrk
  clear hl hk hrl hrk
  by_cases h1 : 500 < n
  · go_enter Try.func3, Try.ntmps3
    go_wp2_with fail
    refine (awake2_any _).mono ?_
    rintro e w1 ⟨rfl, hm1⟩
    have HM1 := Lib.hid hm1
    clear hm1
    go_wp2_with fail
    refine (awake2_any _).mono ?_
    rintro e w2 ⟨rfl, hm2⟩
    have HM2 := Lib.hid hm2
    clear hm2
    go_wp2_with fail
    go_ret
    exact ⟨rfl, HM1.out.trans HM2.out⟩
  by_cases h2 : 500 < m
  · go_enter Try.func3, Try.ntmps3
    go_wp2_with fail
    refine (awake2_any _).mono ?_
    rintro e w1 ⟨rfl, hm1⟩
    have HM1 := Lib.hid hm1
    clear hm1
    go_wp2_with fail
    refine (awake2_any _).mono ?_
    rintro e w2 ⟨rfl, hm2⟩
    have HM2 := Lib.hid hm2
    clear hm2
    go_wp2_with fail
    go_ret
    exact ⟨rfl, HM1.out.trans HM2.out⟩
  obtain ⟨M, hM⟩ : ∃ M, M = l ++ k := ⟨_, rfl⟩
  have hml : M.length = n + m := by rw [hM, List.length_append, HL.out, HK.out]
  have HM := Lib.hid hM
  have HML := Lib.hid hml
  clear hM hml
  obtain ⟨s, hs⟩ : ∃ s, s = str M := ⟨_, rfl⟩
  have hsz : s.size = n + m := by rw [hs, str_size, HML.out]
  have hsl : s.data.toList = M := by rw [hs]; rfl
  have HS := Lib.hid hs
  have HSZ := Lib.hid hsz
  have HSL := Lib.hid hsl
  clear hs hsz hsl
  go_enter Try.func3, Try.ntmps3
  go_wp2_with fail
  refine (awake2_any _).mono ?_
  rintro e w1 ⟨rfl, hm1⟩
  have ka := conv_bytes (HRL.out.keep0 hm1) HL.out c
  have kb := conv_bytes (HRK.out.keep0 hm1) HK.out d
  have HM1 := Lib.hid hm1
  clear hm1
  have hcat : str l ++ str k = s := by rw [HS.out, HM.out, str_append]
  have hs1 : (str l).size = n := by rw [str_size, HL.out]
  have hs2 : (str k).size = m := by rw [str_size, HK.out]
  go_wp2_with fail
  have hA1 := Lib.hid ((HRL.out.keep0 HM1.out).keep0 (Mod.refl Nil w1).drew)
  have hB1 := Lib.hid ((HRK.out.keep0 HM1.out).keep0 (Mod.refl Nil w1).drew)
  have ks := conv_string
  have KS := Lib.hid ks
  clear ka kb hs1 hs2 hcat ks
  refine wp_flow2 (by kernel_rfl) (R := Mod Nil) [(24, .is (.slice A n c)), (25, .is (.slice B m d)), (26, ⟨IsParts [l, k], fun _ _ _ h k => h.keep0 k⟩), (27, .is (.int .u32 (crcSum M : Nat))),
    (28, .is (.string s)), (29, .is (.int .u32 (crcSum M : Nat))), (30, .is (.bool true)), (31, .is (.bool true)), (32, .is (.string s)), (33, ⟨IsSl (n + m) (M.map bv), fun _ _ _ h k => h.keep0 k⟩),
    (34, ⟨IsSl (n + m + 4) ((sealed M).map bv), fun _ _ _ h k => h.keep0 k⟩), (35, .is (.string (str (sealed M)))), (36, .is (.string s)), (37, .is (.string (str (sealed M)))), (38, .is (.bool true)), (39, .is (.bool true)), (4, .is (.bool true))]
    (by kernel_rfl) (Mod.refl Nil) mod_trans ?fops ?ffin
  case fops =>
    refine ⟨?_, ?_, ?_, ?_, ?_, ?_, ?_, ?_, ?_, ?_, ?_, ?_, ?_, ?_, ?_, ?_, ?_, trivial⟩
    all_goals intro a wa hR hk
    all_goals simp [Oper.looksAt, Op.operands, Call.operands, Seen, slot, St.is, Act.eval] at hk
    all_goals try refine ⟨fun _ => ?_, fun hg => (hg (by simp [Act.eval, hk])).elim⟩
    all_goals try (go_wp2_with fail; exact leaves_of (Mod.refl _ _) rfl)
    · go_wp2_with fail
      exact leaves_of ((Mod.refl _ _).alloc _) ⟨_, _, rfl, parts_two (hA1.out.keep0 hR) (hB1.out.keep0 hR) HL.out HK.out (by simp [maxLen]; omega) (by simp [maxLen]; omega) rfl⟩
    · obtain ⟨A', c', hg, hp⟩ := hk
      go_wp2_with fail
      refine (sum_any All _ _ _ [l, k] _ rfl (by simp) hp).mono ?_
      rintro e w2 ⟨rfl, rfl⟩
      exact leaves_of (Mod.refl _ _) (by simp [Holds, slot, St.is, HM.out])
    · go_wp2_with fail
      refine (refSum_any s _ (by rw [HSZ.out]; simp [maxLen]; omega)).mono ?_
      rintro e w2 ⟨rfl, rfl⟩
      exact leaves_of (Mod.refl _ _) (by simp [Holds, slot, St.is, HSL.out])
    · have ks := KS.out
      go_wp2_with fail
      refine leaves_of ((Mod.refl _ _).bytes _ _) ⟨_, _, by rw [HSZ.out], ?_, ?_, ?_, ?_⟩
      · rw [← HSZ.out]; exact grownCap_ge _ _ _ _
      · exact grownCap_le_maxLen _ _ _ _ (by simp [maxLen]; omega)
      · rw [List.length_map, HML.out]
      · rw [← HSL.out]; exact (Rd.bytes _ _ _).mono fun _ _ _ => trivial
    · obtain ⟨⟨A', c', hg, _, _, hln, hr⟩, _⟩ := hk
      rw [List.length_map] at hln
      have HLN := Lib.hid hln
      have HR2 := Lib.hid hr
      clear hr hln
      go_wp2_with fail
      refine (seal_any All A' _ _ M _ HLN.out (by omega) HR2.out).mono ?_
      rintro e w2 ⟨v2, rfl, hown2, hm2⟩
      exact leaves_of hm2 (IsSl.of_own hown2)
    · obtain ⟨⟨A', c', hg, _, _, hln, hr⟩, _⟩ := hk
      rw [List.length_map] at hln
      have kb := conv_bytes hr hln c'
      clear hr hln
      go_wp2_with fail
      exact leaves_of (Mod.refl _ _) rfl
    · go_wp2_with fail
      refine (refSeal_any s _ (by rw [HSZ.out]; omega)).mono ?_
      rintro e w2 ⟨rfl, hm2⟩
      exact leaves_of hm2 (by simp [Holds, slot, St.is, HSL.out])
  case ffin =>
    intro w' vs hR hV
    simp [HoldsAll, St.is] at hV
    obtain ⟨e24, e25, ⟨A1, c1, e26, _⟩, e27, e28, e29, e30, e31, e32, ⟨A2, c2, e33, _⟩, ⟨A3, c3, e34, _⟩, e35, e36, e37, e38, e39, e4⟩ := hV
    simp only [List.map_cons, List.map_nil, List.foldl_cons, List.foldl_nil, Act.put, e24, e25, e26, e27, e28, e29, e30, e31, e32, e33, e34, e35, e36, e37, e38, e39, e4, List.setIfInBounds_toArray, List.set_cons_succ, List.set_cons_zero]
    clear e24 e25 e26 e27 e28 e29 e30 e31 e32 e33 e34 e35 e36 e37 e38 e39 e4
    have HF := Lib.hid (HM1.out.trans ((Mod.refl Nil w1).drew.trans hR))
    clear hR
    go_wp2_with fail
    go_ret
    exact ⟨rfl, HF.out⟩

end Go.Proofs.Ytdllafmponmkmaa
