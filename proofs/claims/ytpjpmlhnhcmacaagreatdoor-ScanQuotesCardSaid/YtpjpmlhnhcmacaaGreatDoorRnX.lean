/- The document's Is and In, walked. -/
import Derived.Test.YtpjpmlhnhcmacaaGreatDoorRnW
namespace Go.Proofs.YtpjpmlhnhcmacaaGreatDoor
open Go.RowKit

theorem dig_cmp (c : UInt8) : digB c = !(decide ((c.toNat : Int) < 48) || decide (57 < (c.toNat : Int))) := by
  unfold digB
  rw [Bool.eq_iff_iff]
  simp
  omega

set_option maxHeartbeats 1600000 in
set_option maxRecDepth 100000 in
theorem r6Is_any (l : List UInt8) (hl : l.length ≤ 100000) (w : World) : Calls Tryz.prog 63 #[.string (str l)] w fun e w' => e = .returned (.bool (nmIs l)) ∧ w = w' := by
  have hsz := str_size l
  rcases l with _ | ⟨c, r⟩
  · have hz : (str []).size = 0 := rfl
    clear hsz
    go_enter Tryz.func63, Tryz.ntmps63
    go_wp2_with fail
    go_ret
    exact ⟨rfl, rfl⟩
  · have hg := str_getE (l := c :: r) (k := 0) (c := c) rfl (by rw [hsz]; simp)
    have HIS := Lib.hid (show nmIs (c :: r) = (letB c && (c :: r).all wrdB && decide ((c :: r).length ≤ 40)) from rfl)
    have hpos : 1 ≤ (c :: r).length := by simp
    obtain ⟨l, hL⟩ : ∃ l, l = c :: r := ⟨_, rfl⟩
    rw [← hL] at hsz HIS hpos hl ⊢
    have hg : ∀ h, (str l)[0]'h = c := by subst hL; exact fun h => str_getE (l := c :: r) (k := 0) (c := c) rfl h
    clear hL
    by_cases h40 : l.length ≤ 40
    · go_enter Tryz.func63, Tryz.ntmps63
      go_wp2_with fail
      refine (r6Letter_any c _).mono ?_
      rintro e w2 ⟨rfl, rfl⟩
      rcases hlet : letB c with _ | _
      · have HX := Lib.hid (show nmIs l = false by rw [HIS.out, hlet]; rfl)
        go_wp2_with fail
        go_ret
        exact ⟨ret_bool (by rw [HX.out]), rfl⟩
      · have HX := Lib.hid (show nmIs l = l.all wrdB by rw [HIS.out, hlet]; simp [h40])
        clear hlet
        go_wp2_with fail
        go_loopw [3] (fun v wr => ∃ k : Nat, v = .int .i64 (k : Nat) ∧ k ≤ l.length ∧ (∀ i d, i < k → l[i]? = some d → wrdB d = true) ∧ w = wr) (fun v _ => l.length - (intOf v).toNat)
        case atStart => exact ⟨0, rfl, Nat.zero_le _, fun i d hi => absurd hi (by omega), rfl⟩
        case round =>
          obtain ⟨k, rfl, hk, hall, rfl⟩ := hrel
          have HALL := Lib.hid hall
          clear hall hg
          by_cases hlt : k < l.length
          · obtain ⟨d, hd⟩ : ∃ d, l[k]? = some d := ⟨_, List.getElem?_eq_getElem hlt⟩
            have hgd := str_getE hd (by omega)
            have hu := u8_lt d
            have HD := Lib.hid hd
            have HGOOD := Lib.hid (show wrdB d = true → ∀ i e, i < k + 1 → l[i]? = some e → wrdB e = true from fun h i e hi he => by
              rcases Nat.lt_or_ge i k with h1 | h1
              · exact HALL.out i e h1 he
              · have : i = k := by omega
                subst this
                rw [HD.out] at he
                cases he
                exact h)
            have HBAD := Lib.hid (show wrdB d = false → nmIs l = false from fun h => by
              rw [HX.out, List.all_eq_false]
              exact ⟨d, List.mem_of_getElem? HD.out, by simp [h]⟩)
            clear hd
            go_wp2_with fail
            refine (r6Letter_any d _).mono ?_
            rintro e w2 ⟨rfl, rfl⟩
            rcases hld : letB d with _ | _
            · rcases hdd : digB d with _ | _
              · have HY := Lib.hid (HBAD.out (by unfold wrdB; rw [hld, hdd]; rfl))
                rw [dig_cmp] at hdd
                by_cases h48 : (d.toNat : Int) < 48
                · go_wp2_with fail
                  go_ret
                  exact ⟨ret_bool (by rw [HY.out]), rfl⟩
                · have h57 : 57 < (d.toNat : Int) := by simp at hdd; omega
                  clear hdd
                  go_wp2_with fail
                  go_ret
                  exact ⟨ret_bool (by rw [HY.out]), rfl⟩
              · have HY := Lib.hid (HGOOD.out (by unfold wrdB; rw [hdd]; simp))
                rw [dig_cmp] at hdd
                have h48 : ¬ (d.toNat : Int) < 48 := by simp at hdd; omega
                have h57 : ¬ 57 < (d.toNat : Int) := by simp at hdd; omega
                clear hdd
                go_wp2_with fail
                refine ⟨⟨k + 1, by simp, hlt, HY.out, trivial⟩, ?_⟩
                simp [intOf]
                omega
            · have HY := Lib.hid (HGOOD.out (let_wrd hld))
              go_wp2_with fail
              refine ⟨⟨k + 1, by simp, hlt, HY.out, trivial⟩, ?_⟩
              simp [intOf]
              omega
          · have HY := Lib.hid (show nmIs l = true by
              rw [HX.out, List.all_eq_true]
              intro d hd
              obtain ⟨i, hi⟩ := List.getElem?_of_mem hd
              exact HALL.out i d (by have := (List.getElem?_eq_some_iff.1 hi).1; omega) hi)
            go_wp2_with fail
            go_ret
            exact ⟨ret_bool (by rw [HY.out]), rfl⟩
    · have HX := Lib.hid (show nmIs l = false by rw [HIS.out]; simp [h40])
      go_enter Tryz.func63, Tryz.ntmps63
      go_wp2_with fail
      go_ret
      exact ⟨ret_bool (by rw [HX.out]), rfl⟩

set_option maxHeartbeats 1600000 in
set_option maxRecDepth 100000 in
theorem r6In_any (A : Option Addr) (n cap : Nat) (ls : List (List UInt8)) (s : List UInt8) (w : World) (hn : ls.length = n) (hbig : n ≤ 1000) (hr : Rd All w A (ls.map sv)) :
    Calls Tryz.prog 41 #[.slice A n cap, .string (str s)] w fun e w' => e = .returned (.bool (ls.contains s)) ∧ w = w' := by
  have HR := Lib.hid hr
  have HN := Lib.hid hn
  clear hr hn
  go_enter Tryz.func41, Tryz.ntmps41
  go_wp2_with fail
  go_loopw [5] (fun v wr => ∃ k : Nat, v = .int .i64 (k : Nat) ∧ k ≤ n ∧ (∀ i d, i < k → ls[i]? = some d → d ≠ s) ∧ w = wr) (fun v _ => n - (intOf v).toNat)
  case atStart => exact ⟨0, rfl, Nat.zero_le _, fun i d hi => absurd hi (by omega), rfl⟩
  case round =>
    obtain ⟨k, rfl, hk, hall, rfl⟩ := hrel
    have HALL := Lib.hid hall
    clear hall
    by_cases hlt : k < n
    · obtain ⟨d, hd⟩ : ∃ d, ls[k]? = some d := ⟨_, List.getElem?_eq_getElem (by rw [HN.out]; exact hlt)⟩
      have hcell : (ls.map sv)[k]? = some (sv d) := by rw [List.getElem?_map, hd]; rfl
      obtain ⟨ad, rfl, _, hadl, hcell'⟩ := HR.out.at_ hcell
      simp only [sv] at hcell'
      have hbq : ((str d).toList == (str s).toList) = (d == s) := by rw [str_toList, str_toList]
      have HD := Lib.hid hd
      clear hcell hd
      by_cases hds : d = s
      · have HX := Lib.hid (show ls.contains s = true by rw [List.contains_iff_mem]; exact hds ▸ List.mem_of_getElem? HD.out)
        have hq : (d == s) = true := by simp [hds]
        rw [hq] at hbq
        clear hds hq
        go_wp2_with fail
        go_ret
        exact ⟨ret_bool (by rw [HX.out]), rfl⟩
      · have HX := Lib.hid (show ∀ i e, i < k + 1 → ls[i]? = some e → e ≠ s from fun i e hi he => by
          rcases Nat.lt_or_ge i k with h1 | h1
          · exact HALL.out i e h1 he
          · have : i = k := by omega
            subst this
            rw [HD.out] at he
            cases he
            exact hds)
        have hq : (d == s) = false := by simp [hds]
        rw [hq] at hbq
        clear hds hq
        go_wp2_with fail
        refine ⟨⟨k + 1, by simp, hlt, HX.out, trivial⟩, ?_⟩
        simp [intOf]
        omega
    · have HX := Lib.hid (show ls.contains s = false by
        rw [Bool.eq_false_iff, Ne, List.contains_iff_mem]
        intro h
        obtain ⟨i, hi⟩ := List.getElem?_of_mem h
        exact HALL.out i s (by have := (List.getElem?_eq_some_iff.1 hi).1; rw [HN.out] at this; omega) hi rfl)
      go_wp2_with fail
      go_ret
      exact ⟨ret_bool (by rw [HX.out]), rfl⟩
end Go.Proofs.YtpjpmlhnhcmacaaGreatDoor
