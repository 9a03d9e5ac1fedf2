/- The walk of the law DiskSizes. -/
import Derived.Test.YtdllafmponmkmaaDskAw
import Derived.Test.YtdllafmponmkmaaFlow
namespace Go.Proofs.Ytdllafmponmkmaa
open Go.RowKit

theorem tmod64 (n : Nat) : (n : Int).tmod 64 = ((n % 64 : Nat) : Int) := by rw [Int.tmod_eq_emod_of_nonneg (by omega)]; omega

set_option maxHeartbeats 3200000 in
set_option maxRecDepth 100000 in
theorem diskSizes_walk (x : Int) (A : Option Addr) (n cap : Nat) (l : List UInt8) (w : World) (hl : l.length = n) (hn : n ≤ maxLen) (hr : Rd All w A (l.map bv)) :
    Calls Try.prog 9 #[.int .i64 x, .slice A n cap] w fun r w' => r = .returned (.bool true) ∧ Mod Nil w w' := by
  have HR := Lib.hid hr
  have HL := Lib.hid hl
  clear hr hl
  have hmax : maxLen = 9223372036854775807 := rfl
  by_cases hbig : n > 2000
  · go_enter Try.func9, Try.ntmps9
    go_wp2_with fail
    refine (awake3_any _).mono ?_
    rintro r w1 ⟨rfl, hm1⟩
    have HM1 := Lib.hid hm1
    clear hm1
    go_wp2_with fail
    refine (awake3_any _).mono ?_
    rintro r w2 ⟨rfl, hm2⟩
    have HM2 := Lib.hid (HM1.out.trans hm2)
    clear hm2
    go_wp2_with fail
    go_ret
    exact ⟨rfl, HM2.out⟩
  · go_enter Try.func9, Try.ntmps9
    go_wp2_with fail
    refine (awake3_any _).mono ?_
    rintro r w1 ⟨rfl, hm1⟩
    have HM1 := Lib.hid hm1
    clear hm1
    rcases (show (x < 1 ∨ 65536 < x) ∨ (500 < x ∧ x ≤ 65536) ∨ (1 ≤ x ∧ x ≤ 500) by omega) with hx | hx | hx
    · have h3 : x < 1 ∨ (¬ x < 1 ∧ 65536 < x) := by omega
      rcases h3 with h1 | ⟨h1, h2⟩
      all_goals
        go_wp2_with fail
        refine (dskNew_bad x _ hx).mono ?_
        rintro r w2 ⟨rfl, rfl⟩
        have HMx := Lib.hid HM1.out
        by_cases hd : dskLen n
        · have hn0 : ((n : Int) == 0) = false := by have := hd.1; simp; omega
          have hnm : (n : Int).tmod 64 = 0 := by rw [tmod64]; have := hd.2.1; omega
          go_wp2_with fail
          refine (dskOf_ok A n cap _ l _ hd HL.out (HR.out.keep0 HMx.out)).mono ?_
          rintro r w4 ⟨g, F, rfl, hd4, hm4⟩
          have HD4 := Lib.hid hd4
          have HM4 := Lib.hid (HMx.out.trans hm4)
          clear hd4 hm4
          go_wp2_with fail
          refine wp_flow2 (by kernel_rfl) (R := Mod Nil)
            [(84, .is (.pointer (some ⟨g, 0, none⟩))), (85, .is (.bool true)), (86, .is (.bool true)), (87, .is (.int .i64 0)), (88, .is (.bool true)), (89, .is (.bool true)), (90, .is (.bool true)), (91, .is (.pointer (some ⟨g, 0, none⟩))), (92, .is (.int .i64 (n / 64 : Nat))),
            (93, .is (.slice A n cap)), (94, .is (.int .i64 n)), (95, .is (.int .i64 (n / 64 : Nat))), (96, .is (.bool true)), (97, .is (.bool true)), (98, .is (.bool true)), (99, .is (.pointer (some ⟨g, 0, none⟩))), (100, ⟨IsSl n (l.map bv), fun _ _ _ h k => h.keep0 k⟩),
            (101, .is (.string (str l))), (102, .is (.slice A n cap)), (103, .is (.string (str l))), (104, .is (.bool true)), (105, .is (.bool true)), (106, .is (.bool true)), (107, .is (.pointer (some ⟨g, 0, none⟩))), (108, .is (.int .i64 0)), (109, .is (.bool true)), (110, .is (.bool true)), (4, .is (.bool true))]
            (by kernel_rfl) (Mod.refl Nil) mod_trans ?fops ?ffin
          case fops =>
            refine ⟨?_, ?_, ?_, ?_, ?_, ?_, ?_, ?_, ?_, ?_, ?_, ?_, ?_, ?_, ?_, ?_, ?_, ?_, ?_, ?_, ?_, ?_, ?_, ?_, ?_, ?_, ?_, ?_, trivial⟩
            all_goals intro a wa hR hk
            all_goals simp [Oper.looksAt, Op.operands, Call.operands, Seen, slot, St.is, Act.eval] at hk
            all_goals try refine ⟨fun _ => ?_, fun hg => (hg (by simp [Act.eval, hk])).elim⟩
            all_goals try (go_wp2_with fail; exact leaves_of (Mod.refl _ _) rfl)
            all_goals have hM4 := (Mod.refl Nil w4).drew.trans hR
            · go_wp2_with fail
              refine (dskSize_any _ g F _ wa (HD4.out.keep0 hM4)).mono ?_
              rintro r w5 ⟨rfl, rfl⟩
              exact leaves_of (Mod.refl _ _) (by simp [Holds, slot, St.is, HL.out])
            · go_wp2_with fail
              refine (dskImage_any _ g F _ wa (HD4.out.keep0 hM4) (by simp)).mono ?_
              rintro r w5 ⟨v5, rfl, ho5, hm5⟩
              exact leaves_of hm5 (HL.out ▸ IsSl.of_own ho5)
            · obtain ⟨⟨A', c', hg, _, _, hln, hr⟩, _⟩ := hk
              rw [List.length_map] at hln
              have kb := conv_bytes hr hln c'
              clear hr hln
              go_wp2_with fail
              exact leaves_of (Mod.refl _ _) rfl
            · have kb := conv_bytes (HR.out.keep0 (HM4.out.trans hM4)) HL.out cap
              go_wp2_with fail
              exact leaves_of (Mod.refl _ _) rfl
            · go_wp2_with fail
              refine (dskWaiting_any _ g F _ wa (HD4.out.keep0 hM4)).mono ?_
              rintro r w5 ⟨rfl, rfl⟩
              exact leaves_of (Mod.refl _ _) rfl
          case ffin =>
            intro w' vs hR hV
            simp [HoldsAll, St.is] at hV
            obtain ⟨e84, e85, e86, e87, e88, e89, e90, e91, e92, e93, e94, e95, e96, e97, e98, e99, ⟨A2, c2, e100, _⟩, e101, e102, e103, e104, e105, e106, e107, e108, e109, e110, e4⟩ := hV
            simp only [List.map_cons, List.map_nil, List.foldl_cons, List.foldl_nil, Act.put, e84, e85, e86, e87, e88, e89, e90, e91, e92, e93, e94, e95, e96, e97, e98, e99, e100, e101, e102, e103, e104, e105, e106, e107, e108, e109, e110, e4, List.setIfInBounds_toArray, List.set_cons_succ, List.set_cons_zero]
            clear e84 e85 e86 e87 e88 e89 e90 e91 e92 e93 e94 e95 e96 e97 e98 e99 e100 e101 e102 e103 e104 e105 e106 e107 e108 e109 e110 e4
            have HF := Lib.hid (HM4.out.trans ((Mod.refl Nil w4).drew.trans hR))
            clear hR
            go_wp2_with fail
            go_ret
            exact ⟨rfl, HF.out⟩
        · have hnn : ((n : Int) == 0) = decide (n = 0) := by by_cases h : n = 0 <;> simp [h]
          have hnm : n = 0 ∨ ((n : Int) == 0) = false ∧ ((n : Int) % 64 != 0) = true := by
            unfold dskLen at hd
            by_cases h : n = 0
            · exact .inl h
            · exact .inr ⟨by simp; omega, by simp; omega⟩
          have HD := Lib.hid hd
          clear hnn hd
          rcases hnm with hnm | ⟨hnm, hnm2⟩
          · subst hnm
            go_wp2_with fail
            refine (dskOf_bad A 0 cap _ HD.out hn).mono ?_
            rintro r w4 ⟨rfl, rfl⟩
            go_wp2_with fail
            go_ret
            exact ⟨rfl, HMx.out⟩
          · go_wp2_with fail
            refine (dskOf_bad A n cap _ HD.out hn).mono ?_
            rintro r w4 ⟨rfl, rfl⟩
            go_wp2_with fail
            go_ret
            exact ⟨rfl, HMx.out⟩
    · have h1 : ¬ x < 1 := by omega
      have h2 : ¬ 65536 < x := by omega
      have h3 : ¬ x ≤ 500 := by omega
      have HMx := Lib.hid HM1.out

      by_cases hd : dskLen n
      · have hn0 : ((n : Int) == 0) = false := by have := hd.1; simp; omega
        have hnm : (n : Int).tmod 64 = 0 := by rw [tmod64]; have := hd.2.1; omega
        go_wp2_with fail
        refine (dskOf_ok A n cap _ l _ hd HL.out (HR.out.keep0 HMx.out)).mono ?_
        rintro r w4 ⟨g, F, rfl, hd4, hm4⟩
        have HD4 := Lib.hid hd4
        have HM4 := Lib.hid (HMx.out.trans hm4)
        clear hd4 hm4
        go_wp2_with fail
        refine wp_flow2 (by kernel_rfl) (R := Mod Nil)
          [(84, .is (.pointer (some ⟨g, 0, none⟩))), (85, .is (.bool true)), (86, .is (.bool true)), (87, .is (.int .i64 0)), (88, .is (.bool true)), (89, .is (.bool true)), (90, .is (.bool true)), (91, .is (.pointer (some ⟨g, 0, none⟩))), (92, .is (.int .i64 (n / 64 : Nat))),
          (93, .is (.slice A n cap)), (94, .is (.int .i64 n)), (95, .is (.int .i64 (n / 64 : Nat))), (96, .is (.bool true)), (97, .is (.bool true)), (98, .is (.bool true)), (99, .is (.pointer (some ⟨g, 0, none⟩))), (100, ⟨IsSl n (l.map bv), fun _ _ _ h k => h.keep0 k⟩),
          (101, .is (.string (str l))), (102, .is (.slice A n cap)), (103, .is (.string (str l))), (104, .is (.bool true)), (105, .is (.bool true)), (106, .is (.bool true)), (107, .is (.pointer (some ⟨g, 0, none⟩))), (108, .is (.int .i64 0)), (109, .is (.bool true)), (110, .is (.bool true)), (4, .is (.bool true))]
          (by kernel_rfl) (Mod.refl Nil) mod_trans ?fops ?ffin
        case fops =>
          refine ⟨?_, ?_, ?_, ?_, ?_, ?_, ?_, ?_, ?_, ?_, ?_, ?_, ?_, ?_, ?_, ?_, ?_, ?_, ?_, ?_, ?_, ?_, ?_, ?_, ?_, ?_, ?_, ?_, trivial⟩
          all_goals intro a wa hR hk
          all_goals simp [Oper.looksAt, Op.operands, Call.operands, Seen, slot, St.is, Act.eval] at hk
          all_goals try refine ⟨fun _ => ?_, fun hg => (hg (by simp [Act.eval, hk])).elim⟩
          all_goals try (go_wp2_with fail; exact leaves_of (Mod.refl _ _) rfl)
          all_goals have hM4 := (Mod.refl Nil w4).drew.trans hR
          · go_wp2_with fail
            refine (dskSize_any _ g F _ wa (HD4.out.keep0 hM4)).mono ?_
            rintro r w5 ⟨rfl, rfl⟩
            exact leaves_of (Mod.refl _ _) (by simp [Holds, slot, St.is, HL.out])
          · go_wp2_with fail
            refine (dskImage_any _ g F _ wa (HD4.out.keep0 hM4) (by simp)).mono ?_
            rintro r w5 ⟨v5, rfl, ho5, hm5⟩
            exact leaves_of hm5 (HL.out ▸ IsSl.of_own ho5)
          · obtain ⟨⟨A', c', hg, _, _, hln, hr⟩, _⟩ := hk
            rw [List.length_map] at hln
            have kb := conv_bytes hr hln c'
            clear hr hln
            go_wp2_with fail
            exact leaves_of (Mod.refl _ _) rfl
          · have kb := conv_bytes (HR.out.keep0 (HM4.out.trans hM4)) HL.out cap
            go_wp2_with fail
            exact leaves_of (Mod.refl _ _) rfl
          · go_wp2_with fail
            refine (dskWaiting_any _ g F _ wa (HD4.out.keep0 hM4)).mono ?_
            rintro r w5 ⟨rfl, rfl⟩
            exact leaves_of (Mod.refl _ _) rfl
        case ffin =>
          intro w' vs hR hV
          simp [HoldsAll, St.is] at hV
          obtain ⟨e84, e85, e86, e87, e88, e89, e90, e91, e92, e93, e94, e95, e96, e97, e98, e99, ⟨A2, c2, e100, _⟩, e101, e102, e103, e104, e105, e106, e107, e108, e109, e110, e4⟩ := hV
          simp only [List.map_cons, List.map_nil, List.foldl_cons, List.foldl_nil, Act.put, e84, e85, e86, e87, e88, e89, e90, e91, e92, e93, e94, e95, e96, e97, e98, e99, e100, e101, e102, e103, e104, e105, e106, e107, e108, e109, e110, e4, List.setIfInBounds_toArray, List.set_cons_succ, List.set_cons_zero]
          clear e84 e85 e86 e87 e88 e89 e90 e91 e92 e93 e94 e95 e96 e97 e98 e99 e100 e101 e102 e103 e104 e105 e106 e107 e108 e109 e110 e4
          have HF := Lib.hid (HM4.out.trans ((Mod.refl Nil w4).drew.trans hR))
          clear hR
          go_wp2_with fail
          go_ret
          exact ⟨rfl, HF.out⟩
      · have hnn : ((n : Int) == 0) = decide (n = 0) := by by_cases h : n = 0 <;> simp [h]
        have hnm : n = 0 ∨ ((n : Int) == 0) = false ∧ ((n : Int) % 64 != 0) = true := by
          unfold dskLen at hd
          by_cases h : n = 0
          · exact .inl h
          · exact .inr ⟨by simp; omega, by simp; omega⟩
        have HD := Lib.hid hd
        clear hnn hd
        rcases hnm with hnm | ⟨hnm, hnm2⟩
        · subst hnm
          go_wp2_with fail
          refine (dskOf_bad A 0 cap _ HD.out hn).mono ?_
          rintro r w4 ⟨rfl, rfl⟩
          go_wp2_with fail
          go_ret
          exact ⟨rfl, HMx.out⟩
        · go_wp2_with fail
          refine (dskOf_bad A n cap _ HD.out hn).mono ?_
          rintro r w4 ⟨rfl, rfl⟩
          go_wp2_with fail
          go_ret
          exact ⟨rfl, HMx.out⟩
    · obtain ⟨k, rfl⟩ := Int.eq_ofNat_of_zero_le (show 0 ≤ x by omega)
      have h1 : ¬ (k : Int) < 1 := by omega
      have h2 : ¬ 65536 < (k : Int) := by omega
      have h4 : (k : Int) ≤ 500 := hx.2
      have h5 : k ≤ 500 := by omega
      have h6 : 1 ≤ k := by omega
      obtain ⟨Z, hZ⟩ : ∃ Z, Z = List.replicate (64 * k) (0 : UInt8) := ⟨_, rfl⟩
      have hZl : Z.length = 64 * k := by rw [hZ]; simp
      have HZ := Lib.hid hZ
      have HZL := Lib.hid hZl
      have hw64 : IntKind.i64.wrap (64 * (k : Int)) = ((64 * k : Nat) : Int) := by rw [IntWalk.i64_in _ (by omega)]; omega
      clear hZ hZl
      go_wp2_with fail
      refine (dskNew_ok k _ h6 (by omega)).mono ?_
      rintro r w2 ⟨g, F, rfl, hd2, hm2⟩
      rw [← HZ.out] at hd2
      have HD2 := Lib.hid hd2
      have HM2 := Lib.hid (HM1.out.trans hm2)
      clear hd2 hm2
      go_wp2_with fail
      refine wp_flow2 (by kernel_rfl) (R := Mod Nil)
        [(43, .is (.pointer (some ⟨g, 0, none⟩))), (44, .is (.bool false)), (45, .is (.bool false)), (46, .is (.int .i64 0)), (47, .is (.bool false)), (48, .is (.bool false)), (49, .is (.bool false)), (50, .is (.pointer (some ⟨g, 0, none⟩))), (51, .is (.int .i64 k)),
        (52, .is (.int .i64 k)), (53, .is (.bool false)), (54, .is (.bool false)), (55, .is (.bool false)), (56, .is (.pointer (some ⟨g, 0, none⟩))), (57, ⟨IsSl (64 * k) (Z.map bv), fun _ _ _ h k => h.keep0 k⟩),
        (58, .is (.string (str Z))), (59, .is (.int .i64 k)), (60, .is (.int .i64 (64 * k : Nat))), (61, .is (.string (str Z))), (62, .is (.bool false)), (63, .is (.bool false))]
        (by kernel_rfl) (Mod.refl Nil) mod_trans ?gops ?gfin
      case gops =>
        refine ⟨?_, ?_, ?_, ?_, ?_, ?_, ?_, ?_, ?_, ?_, ?_, ?_, ?_, ?_, ?_, ?_, ?_, ?_, ?_, ?_, ?_, trivial⟩
        all_goals intro a wa hR hk
        all_goals simp [Oper.looksAt, Op.operands, Call.operands, Seen, slot, St.is, Act.eval] at hk
        all_goals try refine ⟨fun _ => ?_, fun hg => (hg (by simp [Act.eval, hk])).elim⟩
        all_goals try (go_wp2_with fail; exact leaves_of (Mod.refl _ _) rfl)
        all_goals have hM2 := (Mod.refl Nil w2).drew.trans hR
        · go_wp2_with fail
          refine (dskSize_any _ g F _ wa (HD2.out.keep0 hM2)).mono ?_
          rintro r w5 ⟨rfl, rfl⟩
          exact leaves_of (Mod.refl _ _) (by simp [Holds, slot, St.is, HZL.out])
        · go_wp2_with fail
          refine (dskImage_any _ g F _ wa (HD2.out.keep0 hM2) (by simp)).mono ?_
          rintro r w5 ⟨v5, rfl, ho5, hm5⟩
          exact leaves_of hm5 (HZL.out ▸ IsSl.of_own ho5)
        · obtain ⟨⟨A', c', hg, _, _, hln, hr⟩, _⟩ := hk
          rw [List.length_map] at hln
          have kb := conv_bytes hr hln c'
          clear hr hln
          go_wp2_with fail
          exact leaves_of (Mod.refl _ _) rfl
        · go_wp2_with fail
          refine (noughts_any (64 * k) wa (by omega)).mono ?_
          rintro r w5 ⟨rfl, hm5⟩
          exact leaves_of hm5 (by simp [Holds, slot, St.is, HZ.out])
      case gfin =>
        intro w' vs hR hV
        simp [HoldsAll, St.is] at hV
        obtain ⟨e43, e44, e45, e46, e47, e48, e49, e50, e51, e52, e53, e54, e55, e56, ⟨A2, c2, e57, _⟩, e58, e59, e60, e61, e62, e63⟩ := hV
        simp only [List.map_cons, List.map_nil, List.foldl_cons, List.foldl_nil, Act.put, e43, e44, e45, e46, e47, e48, e49, e50, e51, e52, e53, e54, e55, e56, e57, e58, e59, e60, e61, e62, e63, List.setIfInBounds_toArray, List.set_cons_succ, List.set_cons_zero]
        clear e43 e44 e45 e46 e47 e48 e49 e50 e51 e52 e53 e54 e55 e56 e57 e58 e59 e60 e61 e62 e63
        have HMx := Lib.hid (HM2.out.trans ((Mod.refl Nil w2).drew.trans hR))
        clear hR
        by_cases hd : dskLen n
        · have hn0 : ((n : Int) == 0) = false := by have := hd.1; simp; omega
          have hnm : (n : Int).tmod 64 = 0 := by rw [tmod64]; have := hd.2.1; omega
          go_wp2_with fail
          refine (dskOf_ok A n cap _ l _ hd HL.out (HR.out.keep0 HMx.out)).mono ?_
          rintro r w4 ⟨g, F, rfl, hd4, hm4⟩
          have HD4 := Lib.hid hd4
          have HM4 := Lib.hid (HMx.out.trans hm4)
          clear hd4 hm4
          go_wp2_with fail
          refine wp_flow2 (by kernel_rfl) (R := Mod Nil)
            [(84, .is (.pointer (some ⟨g, 0, none⟩))), (85, .is (.bool true)), (86, .is (.bool true)), (87, .is (.int .i64 0)), (88, .is (.bool true)), (89, .is (.bool true)), (90, .is (.bool true)), (91, .is (.pointer (some ⟨g, 0, none⟩))), (92, .is (.int .i64 (n / 64 : Nat))),
            (93, .is (.slice A n cap)), (94, .is (.int .i64 n)), (95, .is (.int .i64 (n / 64 : Nat))), (96, .is (.bool true)), (97, .is (.bool true)), (98, .is (.bool true)), (99, .is (.pointer (some ⟨g, 0, none⟩))), (100, ⟨IsSl n (l.map bv), fun _ _ _ h k => h.keep0 k⟩),
            (101, .is (.string (str l))), (102, .is (.slice A n cap)), (103, .is (.string (str l))), (104, .is (.bool true)), (105, .is (.bool true)), (106, .is (.bool true)), (107, .is (.pointer (some ⟨g, 0, none⟩))), (108, .is (.int .i64 0)), (109, .is (.bool true)), (110, .is (.bool true)), (4, .is (.bool true))]
            (by kernel_rfl) (Mod.refl Nil) mod_trans ?fops ?ffin
          case fops =>
            refine ⟨?_, ?_, ?_, ?_, ?_, ?_, ?_, ?_, ?_, ?_, ?_, ?_, ?_, ?_, ?_, ?_, ?_, ?_, ?_, ?_, ?_, ?_, ?_, ?_, ?_, ?_, ?_, ?_, trivial⟩
            all_goals intro a wa hR hk
            all_goals simp [Oper.looksAt, Op.operands, Call.operands, Seen, slot, St.is, Act.eval] at hk
            all_goals try refine ⟨fun _ => ?_, fun hg => (hg (by simp [Act.eval, hk])).elim⟩
            all_goals try (go_wp2_with fail; exact leaves_of (Mod.refl _ _) rfl)
            all_goals have hM4 := (Mod.refl Nil w4).drew.trans hR
            · go_wp2_with fail
              refine (dskSize_any _ g F _ wa (HD4.out.keep0 hM4)).mono ?_
              rintro r w5 ⟨rfl, rfl⟩
              exact leaves_of (Mod.refl _ _) (by simp [Holds, slot, St.is, HL.out])
            · go_wp2_with fail
              refine (dskImage_any _ g F _ wa (HD4.out.keep0 hM4) (by simp)).mono ?_
              rintro r w5 ⟨v5, rfl, ho5, hm5⟩
              exact leaves_of hm5 (HL.out ▸ IsSl.of_own ho5)
            · obtain ⟨⟨A', c', hg, _, _, hln, hr⟩, _⟩ := hk
              rw [List.length_map] at hln
              have kb := conv_bytes hr hln c'
              clear hr hln
              go_wp2_with fail
              exact leaves_of (Mod.refl _ _) rfl
            · have kb := conv_bytes (HR.out.keep0 (HM4.out.trans hM4)) HL.out cap
              go_wp2_with fail
              exact leaves_of (Mod.refl _ _) rfl
            · go_wp2_with fail
              refine (dskWaiting_any _ g F _ wa (HD4.out.keep0 hM4)).mono ?_
              rintro r w5 ⟨rfl, rfl⟩
              exact leaves_of (Mod.refl _ _) rfl
          case ffin =>
            intro w' vs hR hV
            simp [HoldsAll, St.is] at hV
            obtain ⟨e84, e85, e86, e87, e88, e89, e90, e91, e92, e93, e94, e95, e96, e97, e98, e99, ⟨A2, c2, e100, _⟩, e101, e102, e103, e104, e105, e106, e107, e108, e109, e110, e4⟩ := hV
            simp only [List.map_cons, List.map_nil, List.foldl_cons, List.foldl_nil, Act.put, e84, e85, e86, e87, e88, e89, e90, e91, e92, e93, e94, e95, e96, e97, e98, e99, e100, e101, e102, e103, e104, e105, e106, e107, e108, e109, e110, e4, List.setIfInBounds_toArray, List.set_cons_succ, List.set_cons_zero]
            clear e84 e85 e86 e87 e88 e89 e90 e91 e92 e93 e94 e95 e96 e97 e98 e99 e100 e101 e102 e103 e104 e105 e106 e107 e108 e109 e110 e4
            have HF := Lib.hid (HM4.out.trans ((Mod.refl Nil w4).drew.trans hR))
            clear hR
            go_wp2_with fail
            go_ret
            exact ⟨rfl, HF.out⟩
        · have hnn : ((n : Int) == 0) = decide (n = 0) := by by_cases h : n = 0 <;> simp [h]
          have hnm : n = 0 ∨ ((n : Int) == 0) = false ∧ ((n : Int) % 64 != 0) = true := by
            unfold dskLen at hd
            by_cases h : n = 0
            · exact .inl h
            · exact .inr ⟨by simp; omega, by simp; omega⟩
          have HD := Lib.hid hd
          clear hnn hd
          rcases hnm with hnm | ⟨hnm, hnm2⟩
          · subst hnm
            go_wp2_with fail
            refine (dskOf_bad A 0 cap _ HD.out hn).mono ?_
            rintro r w4 ⟨rfl, rfl⟩
            go_wp2_with fail
            go_ret
            exact ⟨rfl, HMx.out⟩
          · go_wp2_with fail
            refine (dskOf_bad A n cap _ HD.out hn).mono ?_
            rintro r w4 ⟨rfl, rfl⟩
            go_wp2_with fail
            go_ret
            exact ⟨rfl, HMx.out⟩
end Go.Proofs.Ytdllafmponmkmaa
