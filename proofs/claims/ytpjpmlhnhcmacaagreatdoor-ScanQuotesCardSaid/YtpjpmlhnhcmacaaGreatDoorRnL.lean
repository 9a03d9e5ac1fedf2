/- The document's Keywords, walked: the walk. -/
import Derived.Test.YtpjpmlhnhcmacaaGreatDoorRnK
import Derived.Test.YtpjpmlhnhcmacaaGreatDoorScS
namespace Go.Proofs.YtpjpmlhnhcmacaaGreatDoor
open Go.RowKit

theorem nmLower_eq {c : UInt8} {r : List UInt8} : nmLower (c :: r) = (nmIs (c :: r) && smallB c) := rfl

set_option maxHeartbeats 3200000 in
set_option maxRecDepth 100000 in
theorem r6Keywords_any (l : List UInt8) (hl : l.length ≤ 5000) (w : World) :
    Calls Tryz.prog 65 #[.string (str l)] w fun e w' => ∃ v, e = .returned v ∧ w'.ownsRow w.heap.size 9 1 v (kwL l).length ((kwL l).map sv) ∧ Mod Nil w w' := by
  have hsz := str_size l
  obtain ⟨i0, hi, hz0, hz1, hz2⟩ := info_parts (show (Tryz.prog.info? 9).map (fun i => (i.zero, i.size, i.bytes)) = some (some (.string ⟨#[]⟩), 1, 16) by kernel_rfl)
  have HST0 := Lib.hid (show KwSt w l (.slice none 0 0) 0 0 [] w from ⟨Nat.le_refl _, Nat.zero_le _, by simp, fun p hp => (by cases hp), fun j c _ h => absurd h (by omega), World.ownsRow_nil _ _ _ _, Mod.refl _ _, Nat.le_refl _⟩)
  have HNIL := Lib.hid (show ∀ w', kwL l = [] → Mod Nil w w' → w'.ownsRow w.heap.size 9 1 (.slice none 0 0) (kwL l).length ((kwL l).map sv) ∧ Mod Nil w w' from fun w' h hm => by
    rw [h]
    exact ⟨World.ownsRow_nil _ _ _ _, hm⟩)
  go_enter Tryz.func65, Tryz.ntmps65
  go_wp2_with fail
  go_loopw [3, 4, 5] (fun v fv iv wr => ∃ (fr i : Nat) (done : List (List UInt8)), fv = .int .i64 fr ∧ iv = .int .i64 i ∧ KwSt w l v fr i done wr) (fun _ _ iv _ => l.length - (intOf iv).toNat)
  case atStart => exact ⟨0, 0, [], rfl, rfl, HST0.out⟩
  case round =>
    obtain ⟨fr, i, done, rfl, rfl, hst⟩ := hrel
    have hfi := hst.le
    have hil := hst.il
    have hdl := hst.len
    have hown := hst.own
    have hmw := hst.mod.size
    have HST := Lib.hid hst
    clear hst
    by_cases hlt : i < l.length
    · obtain ⟨c, hc⟩ : ∃ c, l[i]? = some c := ⟨_, List.getElem?_eq_getElem hlt⟩
      have hg := str_getE hc (by omega)
      have HC := Lib.hid hc
      clear hc
      by_cases h58 : c = 58
      · subst h58
        have he1 : (str l).extract fr i = str ((l.drop fr).take (i - fr)) := str_extract l fr i
        have he2 : (str l).extract fr (i + 1) = str ((l.drop fr).take (i - fr) ++ [58]) := by
          rw [str_extract, show i + 1 - fr = (i - fr) + 1 by omega, take_colon]
          rw [List.getElem?_drop, show fr + (i - fr) = i by omega]
          exact HC.out
        have HBAD := Lib.hid (HST.out.bad HC.out)
        have HNEXT := Lib.hid (fun v' wr' hp hown hm => HST.out.next (v' := v') (wr' := wr') HC.out hp hown hm)
        have hpl : ((l.drop fr).take (i - fr)).length ≤ 5000 := by rw [List.length_take, List.length_drop]; omega
        obtain ⟨p, hp⟩ : ∃ p, p = (l.drop fr).take (i - fr) := ⟨_, rfl⟩
        rw [← hp] at he1 he2 HBAD HNEXT hpl
        clear hp
        go_wp2_with fail
        refine (r6Is_any p (by omega) _).mono ?_
        rintro e w2 ⟨rfl, rfl⟩
        rcases his : nmIs p with _ | _
        · have HX := Lib.hid (HNIL.out _ (HBAD.out (by unfold nmLower; rw [his]; rfl)) HST.out.mod)
          go_wp2_with fail
          go_ret
          exact ⟨_, rfl, HX.out⟩
        · obtain ⟨c0, r0, hp0⟩ : ∃ c0 r0, p = c0 :: r0 := by
            cases p with
            | nil => simp [nmIs] at his
            | cons c r => exact ⟨c, r, rfl⟩
          have hszp := str_size p
          have hpp : 0 < p.length := by rw [hp0]; simp
          have hg0 := str_getE (l := p) (k := 0) (c := c0) (by rw [hp0]; rfl) (by omega)
          have HLO := Lib.hid (show nmLower p = smallB c0 by rw [hp0, nmLower_eq, ← hp0, his]; rfl)
          clear his hp0
          go_wp2_with fail
          refine (r6Small_any c0 _).mono ?_
          rintro e w3 ⟨rfl, rfl⟩
          rcases hsm : smallB c0 with _ | _
          · have HX := Lib.hid (HNIL.out _ (HBAD.out (by rw [HLO.out, hsm])) HST.out.mod)
            clear hsm
            go_wp2_with fail
            go_ret
            exact ⟨_, rfl, HX.out⟩
          · have HLOW := Lib.hid (show nmLower p = true by rw [HLO.out, hsm])
            clear hsm
            go_wp2_with (at_builtin; refine wpList_append_own _ rfl _ _ 41 rfl w.heap.size 9 i0 (.string ⟨#[]⟩) 1 16 Tryz.underlying41 hi hz0 hz1 hz2 rfl (by decide) _ _ _ rfl (hown.alloc _) ⟨wr.heap.size, 0, none⟩ 1 1 [sv (p ++ [58])] rfl rfl ?c1 ?c2 ?c3 ?c4 ?c5 ?_)
            case c1 =>
              intro j u hj
              match j, hj with
              | 0, hj => simp at hj; subst hj; simp [Addr.add, sv]
            case c2 => intro u hu; simp at hu; subst hu; rfl
            case c3 => unfold maxLen; omega
            case c4 => omega
            case c5 => simp; omega
            intro v' w4 hown' hgrow _
            have hA := HST.out.mod.alloc (.cells #[sv (p ++ [58])] 9)
            have HM4 := Lib.hid (hA.trans' (H := Nil) (Mod.of_grown hgrow) (fun _ _ h => h) (fun k hk h => absurd ((hown.lt k h).1) (by omega)))
            have HX := Lib.hid (HNEXT.out v' w4 HLOW.out hown' HM4.out)
            clear hA hown hown' hgrow
            go_wp2_with fail
            refine ⟨⟨i + 1, i + 1, _, by simp, by simp, HX.out⟩, ?_⟩
            simp [intOf]
            omega
      · have hne2 : ((c.toNat : Int) == 58) = false := ne_of_u8 h58
        have hne3 : ((c.toNat : Int) != 58) = true := by rw [bne, hne2]; rfl
        have HX := Lib.hid (HST.out.step HC.out h58)
        clear h58
        go_wp2_with fail
        refine ⟨⟨fr, i + 1, done, rfl, by simp, HX.out⟩, ?_⟩
        simp [intOf]
        omega
    · obtain rfl : i = l.length := by omega
      have HKW := Lib.hid HST.out.kw
      by_cases hend : fr = l.length
      · have hne2 : ((fr : Int) != (l.length : Int)) = false := by simp [bne, hend]
        by_cases h10 : done.length ≤ 10
        · have HX := Lib.hid (show kwL l = done.map (· ++ [58]) by rw [HKW.out, if_pos ⟨hend, h10⟩])
          obtain ⟨A, c, rfl, _, _⟩ := own_slice hown
          have hgt : decide (10 < (done.length : Int)) = false := by simp; omega
          clear hend
          go_wp2_with fail
          go_ret
          refine ⟨_, rfl, ?_, HST.out.mod⟩
          rw [HX.out, List.length_map, List.map_map]
          exact hown
        · have HX := Lib.hid (HNIL.out _ (by rw [HKW.out, if_neg (fun h => h10 h.2)]) HST.out.mod)
          obtain ⟨A, c, rfl, _, _⟩ := own_slice hown
          have hgt : decide (10 < (done.length : Int)) = true := by simp; omega
          clear hend
          go_wp2_with fail
          go_ret
          exact ⟨_, rfl, HX.out⟩
      · have HX := Lib.hid (HNIL.out _ (by rw [HKW.out, if_neg (fun h => hend h.1)]) HST.out.mod)
        have hne1 : ((fr : Int) == (l.length : Int)) = false := by simp; omega
        have hne2 : ((fr : Int) != (l.length : Int)) = true := by rw [bne, hne1]; rfl
        clear hend
        go_wp2_with fail
        go_ret
        exact ⟨_, rfl, HX.out⟩
end Go.Proofs.YtpjpmlhnhcmacaaGreatDoor
