/- scan.symbol, scan.keyword, walked. -/
import Derived.Test.YtpjpmlhnhcmacaaGreatDoorNmS
namespace Go.Proofs.YtpjpmlhnhcmacaaGreatDoor
open Go.RowKit

theorem str_drop (l : List UInt8) (a : Nat) : (str l).extract a l.length = str (l.drop a) := by
  rw [str_extract, List.take_of_length_le (by rw [List.length_drop]; exact Nat.le_refl _)]
theorem str_take (l : List UInt8) (n : Nat) : (str l).extract 0 n = str (l.take n) := by
  rw [str_extract, List.drop_zero, Nat.sub_zero]

/-- Is there a keyword's colon at a place? -/
def kwB (l : List UInt8) (n : Nat) : Bool := l[n]? == some 58 && !(l[n + 1]? == some 61)

theorem prefix2 (l : List UInt8) (n : Nat) (h : l[n]? = some 58) : Lib.hasPrefix (l.drop n) [58, 61] = (l[n + 1]? == some 61) := by
  obtain ⟨r, hr⟩ : ∃ r, l.drop n = 58 :: r := by
    have hlt := (List.getElem?_eq_some_iff.1 h)
    obtain ⟨h1, h2⟩ := hlt
    exact ⟨l.drop (n + 1), by rw [List.drop_eq_getElem_cons h1, h2]⟩
  have h1 : l[n + 1]? = r[0]? := by
    have : (l.drop n)[1]? = l[n + 1]? := List.getElem?_drop
    rw [← this, hr]
    rfl
  rw [hr, h1]
  unfold Lib.hasPrefix
  cases r with
  | nil => rfl
  | cons d q => simp [List.isPrefixOf, Bool.beq_comm]

set_option maxHeartbeats 800000 in
set_option maxRecDepth 100000 in
theorem scKeyword_any (l : List UInt8) (n : Nat) (hl : l.length ≤ 100000) (hn : n ≤ l.length) (w : World) : Calls Tryz.prog 109 #[.string (str l), .int .i64 n] w fun e w' => e = .returned (.bool (kwB l n)) ∧ w = w' := by
  have hsz := str_size l
  have he := str_drop l n
  rcases hc : l[n]? with _ | c
  · have HB := Lib.hid (show kwB l n = false by unfold kwB; rw [hc]; rfl)
    have hge : ¬ n < l.length := by
      have := List.getElem?_eq_none_iff.1 hc
      omega
    clear hc
    go_enter Tryz.func109, Tryz.ntmps109
    go_wp2_with fail
    go_ret
    exact ⟨ret_bool (by rw [HB.out]), rfl⟩
  · have hlt := (List.getElem?_eq_some_iff.1 hc).1
    have hg := str_getE hc (by omega)
    by_cases h58 : c = 58
    · subst h58
      have HB := Lib.hid (show kwB l n = !(l[n + 1]? == some 61) by unfold kwB; rw [hc]; simp)
      have HP := Lib.hid (prefix2 l n hc)
      clear hc
      go_enter Tryz.func109, Tryz.ntmps109
      go_wp2_with fail
      refine (Tryz.strings_HasPrefix (str (l.drop n)) (str [58, 61]) _).mono ?_
      rintro e w2 ⟨rfl, rfl⟩
      rw [show Lib.hasPrefix (str (l.drop n)).data.toList (str [58, 61]).data.toList = (l[n + 1]? == some 61) from HP.out]
      go_wp2_with fail
      go_ret
      exact ⟨ret_bool (by rw [HB.out]), rfl⟩
    · have HB := Lib.hid (show kwB l n = false by unfold kwB; rw [hc]; simp [h58])
      have hu := u8_lt c
      have hne : ((c.toNat : Int) == 58) = false := by
        have : c.toNat ≠ 58 := fun h => h58 (UInt8.toNat_inj.1 h)
        simp
        omega
      clear hc h58
      go_enter Tryz.func109, Tryz.ntmps109
      go_wp2_with fail
      go_ret
      exact ⟨ret_bool (by rw [HB.out]), rfl⟩

theorem ne_of_u8 {c d : UInt8} (h : c ≠ d) : ((c.toNat : Int) == (d.toNat : Int)) = false := by
  have : c.toNat ≠ d.toNat := fun h1 => h (UInt8.toNat_inj.1 h1)
  simp
  omega

set_option maxHeartbeats 1600000 in
set_option maxRecDepth 100000 in
theorem scSymbol_any (l : List UInt8) (hl : l.length ≤ 5000) (w : World) : Calls Tryz.prog 114 #[.string (str l)] w fun e w' => e = .returned (.int .i64 (symL l)) ∧ Mod Nil w w' := by
  have hsz := str_size l
  rcases Nat.eq_zero_or_pos (runL binB l) with hb | hb
  · have hm : ((min 2 (runL binB l) : Nat) : Int) = 0 := by rw [hb]; rfl
    have HBIN := Lib.hid (fun w => scBin_any l (by omega) w)
    have HZ := Lib.hid hb
    clear hb
    go_enter Tryz.func114, Tryz.ntmps114
    go_wp2_with fail
    refine (HBIN.out _).mono ?_
    rw [hm]
    rintro e w2 ⟨rfl, rfl⟩
    clear hm
    go_wp2_with fail
    go_loopw [4, 5] (fun b a wr => ∃ at_ best : Nat, b = .int .i64 best ∧ a = .int .i64 at_ ∧ SymSt l at_ best ∧ at_ ≤ l.length ∧ Mod Nil w wr) (fun _ a _ => l.length - (intOf a).toNat)
    case atStart => exact ⟨0, 0, rfl, rfl, .inl ⟨rfl, rfl⟩, Nat.zero_le _, Mod.refl _ _⟩
    case round =>
      obtain ⟨a, best, rfl, rfl, hst, hal, hm⟩ := hrel
      have HST := Lib.hid hst
      have HM := Lib.hid hm
      have he1 := str_drop l a
      obtain ⟨n, hn⟩ : ∃ n, n = wrdL (l.drop a) := ⟨_, rfl⟩
      have hnle : a + n ≤ l.length := by
        have := wrdL_le (l.drop a)
        rw [List.length_drop] at this
        omega
      have HN := Lib.hid hn
      have HW := Lib.hid (fun w => scWord_any (l.drop a) (by rw [List.length_drop]; omega) w)
      rw [← hn] at HW
      clear hst hm hn
      go_wp2_with fail
      refine (HW.out _).mono ?_
      rintro e w3 ⟨rfl, rfl⟩
      by_cases h0 : n = 0
      · have HX := Lib.hid (sym_exit HST.out HZ.out (by rw [← HN.out]; exact h0))
        subst h0
        go_wp2_with fail
        go_ret
        exact ⟨ret_int (by rw [HX.out]), HM.out⟩
      · have h0' : ((n : Int) == 0) = false := by simp [h0]
        have HPOS := Lib.hid (Nat.pos_of_ne_zero h0)
        have hpos : 0 < n := Nat.pos_of_ne_zero h0
        clear h0
        have he2 := str_take l n
        by_cases ha : a = 0
        · have HK1 := Lib.hid (fun w => nmKind_any (l.take n) (by rw [List.length_take]; omega) w)
          by_cases hk : nmKind (l.take n) = 1
          · have HSB := Lib.hid (show symBest l a n best = n by unfold symBest; rw [if_pos ⟨ha, hk⟩])
            rw [hk] at HK1
            subst ha
            clear hk
            go_wp2_with fail
            refine (HK1.out _).mono ?_
            rintro e w4 ⟨rfl, hm4⟩
            have HMX := Lib.hid (HM.out.trans hm4)
            clear hm4
            rcases hc : l[n]? with _ | c
            · have hge : ¬ n < l.length := by
                have := List.getElem?_eq_none_iff.1 hc
                omega
              have HX := Lib.hid (sym_open HST.out (by rw [← HN.out]; exact HPOS.out) (by rw [← HN.out, Nat.zero_add, hc]; exact fun h => by cases h))
              have hge' : ¬ ((n : Int) < (l.length : Int)) := by omega
              clear hc
              go_wp2_with fail
              go_ret
              exact ⟨ret_int (by rw [HX.out, ← HN.out, HSB.out]), HMX.out⟩
            · have hlt := (List.getElem?_eq_some_iff.1 hc).1
              have hg := str_getE hc (by omega)
              by_cases h58 : c = 58
              · subst h58
                have he3 : (str l).extract 0 (n + 1) = str (l.take (n + 1)) := str_take l (n + 1)
                have HK2 := Lib.hid (fun w => nmKind_any (l.take (n + 1)) (by rw [List.length_take]; omega) w)
                by_cases hk3 : nmKind (l.take (n + 1)) = 3
                · have HX := Lib.hid (sym_next (l := l) (a := 0) (by rw [← HN.out, Nat.zero_add]; exact hc) (by rw [← HN.out, Nat.zero_add]; exact hk3))
                  rw [← HN.out, Nat.zero_add] at HX
                  rw [hk3] at HK2
                  clear hc hk3
                  go_wp2_with fail
                  refine (HK2.out _).mono ?_
                  rintro e w5 ⟨rfl, hm5⟩
                  have HM5 := Lib.hid (HMX.out.trans hm5)
                  clear hm5
                  go_wp2_with fail
                  refine ⟨⟨n + 1, n + 1, ?_, ?_, HX.out, by omega, HM5.out⟩, ?_⟩
                  · simp <;> omega
                  · simp <;> omega
                  · simp [intOf]
                    omega
                · have HX := Lib.hid (sym_shut HST.out (by rw [← HN.out]; exact HPOS.out) (by rw [← HN.out, Nat.zero_add]; exact hc) (by rw [← HN.out, Nat.zero_add]; exact hk3))
                  have hk3' : ((nmKind (l.take (n + 1)) : Int) == 3) = false := by simp; omega
                  clear hc hk3
                  go_wp2_with fail
                  refine (HK2.out _).mono ?_
                  rintro e w5 ⟨rfl, hm5⟩
                  have HM5 := Lib.hid (HMX.out.trans hm5)
                  clear hm5
                  go_wp2_with fail
                  go_ret
                  exact ⟨ret_int (by rw [HX.out, ← HN.out, HSB.out]), HM5.out⟩
              · have HX := Lib.hid (sym_open HST.out (by rw [← HN.out]; exact HPOS.out) (by rw [← HN.out, Nat.zero_add, hc]; exact fun h => h58 (Option.some.inj h)))
                have hu := u8_lt c
                have hne := ne_of_u8 h58
                have hne2 : ((c.toNat : Int) == 58) = false := hne
                have hne3 : ((c.toNat : Int) != 58) = true := by rw [bne, hne2]; rfl
                clear hc h58 hne
                go_wp2_with fail
                go_ret
                exact ⟨ret_int (by rw [HX.out, ← HN.out, HSB.out]), HMX.out⟩
          · have HSB := Lib.hid (show symBest l a n best = best by unfold symBest; rw [if_neg (fun h => hk h.2)])
            have hk1 : ((nmKind (l.take n) : Int) == 1) = false := by simp; omega
            subst ha
            clear hk
            go_wp2_with fail
            refine (HK1.out _).mono ?_
            rintro e w4 ⟨rfl, hm4⟩
            have HMX := Lib.hid (HM.out.trans hm4)
            clear hm4
            rcases hc : l[n]? with _ | c
            · have hge : ¬ n < l.length := by
                have := List.getElem?_eq_none_iff.1 hc
                omega
              have HX := Lib.hid (sym_open HST.out (by rw [← HN.out]; exact HPOS.out) (by rw [← HN.out, Nat.zero_add, hc]; exact fun h => by cases h))
              have hge' : ¬ ((n : Int) < (l.length : Int)) := by omega
              clear hc
              go_wp2_with fail
              go_ret
              exact ⟨ret_int (by rw [HX.out, ← HN.out, HSB.out]), HMX.out⟩
            · have hlt := (List.getElem?_eq_some_iff.1 hc).1
              have hg := str_getE hc (by omega)
              by_cases h58 : c = 58
              · subst h58
                have he3 : (str l).extract 0 (n + 1) = str (l.take (n + 1)) := str_take l (n + 1)
                have HK2 := Lib.hid (fun w => nmKind_any (l.take (n + 1)) (by rw [List.length_take]; omega) w)
                by_cases hk3 : nmKind (l.take (n + 1)) = 3
                · have HX := Lib.hid (sym_next (l := l) (a := 0) (by rw [← HN.out, Nat.zero_add]; exact hc) (by rw [← HN.out, Nat.zero_add]; exact hk3))
                  rw [← HN.out, Nat.zero_add] at HX
                  rw [hk3] at HK2
                  clear hc hk3
                  go_wp2_with fail
                  refine (HK2.out _).mono ?_
                  rintro e w5 ⟨rfl, hm5⟩
                  have HM5 := Lib.hid (HMX.out.trans hm5)
                  clear hm5
                  go_wp2_with fail
                  refine ⟨⟨n + 1, n + 1, ?_, ?_, HX.out, by omega, HM5.out⟩, ?_⟩
                  · simp <;> omega
                  · simp <;> omega
                  · simp [intOf]
                    omega
                · have HX := Lib.hid (sym_shut HST.out (by rw [← HN.out]; exact HPOS.out) (by rw [← HN.out, Nat.zero_add]; exact hc) (by rw [← HN.out, Nat.zero_add]; exact hk3))
                  have hk3' : ((nmKind (l.take (n + 1)) : Int) == 3) = false := by simp; omega
                  clear hc hk3
                  go_wp2_with fail
                  refine (HK2.out _).mono ?_
                  rintro e w5 ⟨rfl, hm5⟩
                  have HM5 := Lib.hid (HMX.out.trans hm5)
                  clear hm5
                  go_wp2_with fail
                  go_ret
                  exact ⟨ret_int (by rw [HX.out, ← HN.out, HSB.out]), HM5.out⟩
              · have HX := Lib.hid (sym_open HST.out (by rw [← HN.out]; exact HPOS.out) (by rw [← HN.out, Nat.zero_add, hc]; exact fun h => h58 (Option.some.inj h)))
                have hu := u8_lt c
                have hne := ne_of_u8 h58
                have hne2 : ((c.toNat : Int) == 58) = false := hne
                have hne3 : ((c.toNat : Int) != 58) = true := by rw [bne, hne2]; rfl
                clear hc h58 hne
                go_wp2_with fail
                go_ret
                exact ⟨ret_int (by rw [HX.out, ← HN.out, HSB.out]), HMX.out⟩
        · have HSB := Lib.hid (show symBest l a n best = best by unfold symBest; rw [if_neg (fun h => ha h.1)])
          have ha' : ((a : Int) == 0) = false := by simp; omega
          have HMX := HM
          clear ha
          rcases hc : l[a + n]? with _ | c
          · have hge : ¬ a + n < l.length := by
              have := List.getElem?_eq_none_iff.1 hc
              omega
            have HX := Lib.hid (sym_open HST.out (by rw [← HN.out]; exact HPOS.out) (by rw [← HN.out, hc]; exact fun h => by cases h))
            have hge' : ¬ ((a : Int) + (n : Int) < (l.length : Int)) := by omega
            clear hc
            go_wp2_with fail
            go_ret
            exact ⟨ret_int (by rw [HX.out, ← HN.out, HSB.out]), HMX.out⟩
          · have hlt := (List.getElem?_eq_some_iff.1 hc).1
            have hg := str_getE hc (by omega)
            by_cases h58 : c = 58
            · subst h58
              have he3 : (str l).extract 0 (a + (n + 1)) = str (l.take (a + n + 1)) := str_take l (a + n + 1)
              have HK2 := Lib.hid (fun w => nmKind_any (l.take (a + n + 1)) (by rw [List.length_take]; omega) w)
              by_cases hk3 : nmKind (l.take (a + n + 1)) = 3
              · have HX := Lib.hid (sym_next (l := l) (a := a) (by rw [← HN.out]; exact hc) (by rw [← HN.out]; exact hk3))
                rw [← HN.out] at HX
                rw [hk3] at HK2
                clear hc hk3
                go_wp2_with fail
                refine (HK2.out _).mono ?_
                rintro e w5 ⟨rfl, hm5⟩
                have HM5 := Lib.hid (HMX.out.trans hm5)
                clear hm5
                go_wp2_with fail
                refine ⟨⟨a + n + 1, a + n + 1, ?_, ?_, HX.out, by omega, HM5.out⟩, ?_⟩
                · simp <;> omega
                · simp <;> omega
                · simp [intOf]
                  omega
              · have HX := Lib.hid (sym_shut HST.out (by rw [← HN.out]; exact HPOS.out) (by rw [← HN.out]; exact hc) (by rw [← HN.out]; exact hk3))
                have hk3' : ((nmKind (l.take (a + n + 1)) : Int) == 3) = false := by simp; omega
                clear hc hk3
                go_wp2_with fail
                refine (HK2.out _).mono ?_
                rintro e w5 ⟨rfl, hm5⟩
                have HM5 := Lib.hid (HMX.out.trans hm5)
                clear hm5
                go_wp2_with fail
                go_ret
                exact ⟨ret_int (by rw [HX.out, ← HN.out, HSB.out]), HM5.out⟩
            · have HX := Lib.hid (sym_open HST.out (by rw [← HN.out]; exact HPOS.out) (by rw [← HN.out, hc]; exact fun h => h58 (Option.some.inj h)))
              have hu := u8_lt c
              have hne := ne_of_u8 h58
              have hne2 : ((c.toNat : Int) == 58) = false := hne
              have hne3 : ((c.toNat : Int) != 58) = true := by rw [bne, hne2]; rfl
              clear hc h58 hne
              go_wp2_with fail
              go_ret
              exact ⟨ret_int (by rw [HX.out, ← HN.out, HSB.out]), HMX.out⟩
  · have hm : ((min 2 (runL binB l) : Nat) : Int) = ((symL l : Nat) : Int) := by rw [sym_bin hb]
    have hpos : 0 < symL l := by rw [sym_bin hb]; omega
    have HBIN := Lib.hid (fun w => scBin_any l (by omega) w)
    generalize symL l = k at hm hpos ⊢
    clear hb
    go_enter Tryz.func114, Tryz.ntmps114
    go_wp2_with fail
    refine (HBIN.out _).mono ?_
    rw [hm]
    rintro e w2 ⟨rfl, rfl⟩
    clear hm
    go_wp2_with fail
    go_ret
    exact ⟨rfl, Mod.refl _ _⟩
end Go.Proofs.YtpjpmlhnhcmacaaGreatDoor
