/- Parts of the proof of CodeRunsUpto, joined: RnL RnM NmC CodF CodG CodH Chp. -/
import Derived.Test.YtefloadjolpgbaaDoorCodeRunsUptoj8
namespace Go.Proofs.YtefloadjolpgbaaDoor
open Go.RowKit

theorem nmLower_eq {c : UInt8} {r : List UInt8} : nmLower (c :: r) = (nmIs (c :: r) && smallB c) := rfl

set_option maxHeartbeats 3200000 in
set_option maxRecDepth 100000 in
theorem r6Keywords_any (l : List UInt8) (hl : l.length ≤ 2000000) (w : World) :
    Calls Tryd.prog 59 #[.string (str l)] w fun e w' => ∃ v, e = .returned v ∧ w'.ownsRow w.heap.size 9 1 v (kwL l).length ((kwL l).map sv) ∧ Mod Nil w w' := by
  have hsz := str_size l
  obtain ⟨i0, hi, hz0, hz1, hz2⟩ := info_parts (show (Tryd.prog.info? 9).map (fun i => (i.zero, i.size, i.bytes)) = some (some (.string ⟨#[]⟩), 1, 16) by kernel_rfl)
  have HST0 := Lib.hid (show KwSt w l (.slice none 0 0) 0 0 [] w from ⟨Nat.le_refl _, Nat.zero_le _, by simp, fun p hp => (by cases hp), fun j c _ h => absurd h (by omega), World.ownsRow_nil _ _ _ _, Mod.refl _ _, Nat.le_refl _⟩)
  have HNIL := Lib.hid (show ∀ w', kwL l = [] → Mod Nil w w' → w'.ownsRow w.heap.size 9 1 (.slice none 0 0) (kwL l).length ((kwL l).map sv) ∧ Mod Nil w w' from fun w' h hm => by
    rw [h]
    exact ⟨World.ownsRow_nil _ _ _ _, hm⟩)
  go_enter Tryd.func59, Tryd.ntmps59
  go_wp2_with fail
  go_loopw [3, 4, 5] (fun v fv iv wr => ∃ (fr i : Nat) (done : List (List UInt8)), fv = .int .i64 fr ∧ iv = .int .i64 i ∧ KwSt w l v fr i done wr) (fun _ _ iv _ => l.length - (intOf iv).toNat)
  case atStart => exact ⟨0, 0, [], rfl, rfl, HST0.out⟩
  case round =>
    obtain ⟨fr, i, done, rfl, rfl, hst⟩ := hrel
    have hfi := hst.le
    have hil := hst.il
    have hdl := hst.len
    have hown := hst.own
    have hmw := hst.mod.size
    have HST := Lib.hid hst
    clear hst
    by_cases hlt : i < l.length
    · obtain ⟨c, hc⟩ : ∃ c, l[i]? = some c := ⟨_, List.getElem?_eq_getElem hlt⟩
      have hg := str_getE hc (by omega)
      have HC := Lib.hid hc
      clear hc
      by_cases h58 : c = 58
      · subst h58
        have he1 : (str l).extract fr i = str ((l.drop fr).take (i - fr)) := str_extract l fr i
        have he2 : (str l).extract fr (i + 1) = str ((l.drop fr).take (i - fr) ++ [58]) := by
          rw [str_extract, show i + 1 - fr = (i - fr) + 1 by omega, take_colon]
          rw [List.getElem?_drop, show fr + (i - fr) = i by omega]
          exact HC.out
        have HBAD := Lib.hid (HST.out.bad HC.out)
        have HNEXT := Lib.hid (fun v' wr' hp hown hm => HST.out.next (v' := v') (wr' := wr') HC.out hp hown hm)
        have hpl : ((l.drop fr).take (i - fr)).length ≤ 2000000 := by rw [List.length_take, List.length_drop]; omega
        obtain ⟨p, hp⟩ : ∃ p, p = (l.drop fr).take (i - fr) := ⟨_, rfl⟩
        rw [← hp] at he1 he2 HBAD HNEXT hpl
        clear hp
        go_wp2_with fail
        refine (r6Is_any p (by omega) _).mono ?_
        rintro e w2 ⟨rfl, rfl⟩
        rcases his : nmIs p with _ | _
        · have HX := Lib.hid (HNIL.out _ (HBAD.out (by unfold nmLower; rw [his]; rfl)) HST.out.mod)
          go_wp2_with fail
          go_ret
          exact ⟨_, rfl, HX.out⟩
        · obtain ⟨c0, r0, hp0⟩ : ∃ c0 r0, p = c0 :: r0 := by
            cases p with
            | nil => simp [nmIs] at his
            | cons c r => exact ⟨c, r, rfl⟩
          have hszp := str_size p
          have hpp : 0 < p.length := by rw [hp0]; simp
          have hg0 := str_getE (l := p) (k := 0) (c := c0) (by rw [hp0]; rfl) (by omega)
          have HLO := Lib.hid (show nmLower p = smallB c0 by rw [hp0, nmLower_eq, ← hp0, his]; rfl)
          clear his hp0
          go_wp2_with fail
          refine (r6Small_any c0 _).mono ?_
          rintro e w3 ⟨rfl, rfl⟩
          rcases hsm : smallB c0 with _ | _
          · have HX := Lib.hid (HNIL.out _ (HBAD.out (by rw [HLO.out, hsm])) HST.out.mod)
            clear hsm
            go_wp2_with fail
            go_ret
            exact ⟨_, rfl, HX.out⟩
          · have HLOW := Lib.hid (show nmLower p = true by rw [HLO.out, hsm])
            clear hsm
            go_wp2_with (at_builtin; refine wpList_append_own _ rfl _ _ 79 rfl w.heap.size 9 i0 (.string ⟨#[]⟩) 1 16 Tryd.underlying79 hi hz0 hz1 hz2 rfl (by decide) _ _ _ rfl (hown.alloc _) ⟨wr.heap.size, 0, none⟩ 1 1 [sv (p ++ [58])] rfl rfl ?c1 ?c2 ?c3 ?c4 ?c5 ?_)
            case c1 =>
              intro j u hj
              match j, hj with
              | 0, hj => simp at hj; subst hj; simp [Addr.add, sv]
            case c2 => intro u hu; simp at hu; subst hu; rfl
            case c3 => unfold maxLen; omega
            case c4 => omega
            case c5 => simp; omega
            intro v' w4 hown' hgrow _
            have hA := HST.out.mod.alloc (.cells #[sv (p ++ [58])] 9)
            have HM4 := Lib.hid (hA.trans' (H := Nil) (Mod.of_grown hgrow) (fun _ _ h => h) (fun k hk h => absurd ((hown.lt k h).1) (by omega)))
            have HX := Lib.hid (HNEXT.out v' w4 HLOW.out hown' HM4.out)
            clear hA hown hown' hgrow
            go_wp2_with fail
            refine ⟨⟨i + 1, i + 1, _, by simp, by simp, HX.out⟩, ?_⟩
            simp [intOf]
            omega
      · have hne2 : ((c.toNat : Int) == 58) = false := ne_of_u8 h58
        have hne3 : ((c.toNat : Int) != 58) = true := by rw [bne, hne2]; rfl
        have HX := Lib.hid (HST.out.step HC.out h58)
        clear h58
        go_wp2_with fail
        refine ⟨⟨fr, i + 1, done, rfl, by simp, HX.out⟩, ?_⟩
        simp [intOf]
        omega
    · obtain rfl : i = l.length := by omega
      have HKW := Lib.hid HST.out.kw
      by_cases hend : fr = l.length
      · have hne2 : ((fr : Int) != (l.length : Int)) = false := by simp [bne, hend]
        by_cases h10 : done.length ≤ 10
        · have HX := Lib.hid (show kwL l = done.map (· ++ [58]) by rw [HKW.out, if_pos ⟨hend, h10⟩])
          obtain ⟨A, c, rfl, _, _⟩ := own_slice hown
          have hgt : decide (10 < (done.length : Int)) = false := by simp; omega
          clear hend
          go_wp2_with fail
          go_ret
          refine ⟨_, rfl, ?_, HST.out.mod⟩
          rw [HX.out, List.length_map, List.map_map]
          exact hown
        · have HX := Lib.hid (HNIL.out _ (by rw [HKW.out, if_neg (fun h => h10 h.2)]) HST.out.mod)
          obtain ⟨A, c, rfl, _, _⟩ := own_slice hown
          have hgt : decide (10 < (done.length : Int)) = true := by simp; omega
          clear hend
          go_wp2_with fail
          go_ret
          exact ⟨_, rfl, HX.out⟩
      · have HX := Lib.hid (HNIL.out _ (by rw [HKW.out, if_neg (fun h => hend h.1)]) HST.out.mod)
        have hne1 : ((fr : Int) == (l.length : Int)) = false := by simp; omega
        have hne2 : ((fr : Int) != (l.length : Int)) = true := by rw [bne, hne1]; rfl
        clear hend
        go_wp2_with fail
        go_ret
        exact ⟨_, rfl, HX.out⟩
end Go.Proofs.YtefloadjolpgbaaDoor

namespace Go.Proofs.YtefloadjolpgbaaDoor
open Go.RowKit

def binS : List (List UInt8) := binL.map fun c => [c]
theorem binS_contains (c : UInt8) : binS.contains [c] = binB c := by
  unfold binB
  rw [Bool.eq_iff_iff, List.contains_iff_mem, List.contains_iff_mem]
  unfold binS
  simp
theorem binS_rd (w : World) (t : TypeId) : Rd All (w.alloc (.cells (binS.map sv).toArray t)) (some ⟨w.heap.size, 0, none⟩) (binS.map sv) := fun _ =>
  ⟨_, rfl, trivial, by simp, fun j u hu => by
    have : (⟨w.heap.size, 0, none⟩ : Addr).add j = ⟨w.heap.size, j, none⟩ := by unfold Addr.add; split <;> simp_all
    rw [this, (Blk.new w t (binS.map sv).toArray).cell j]
    simpa using hu⟩
theorem all_take_succ {p : UInt8 → Bool} {l : List UInt8} {k : Nat} {c : UInt8} (hc : l[k]? = some c) : (l.take (k + 1)).all p = ((l.take k).all p && p c) := by
  rw [List.take_add_one, hc]
  simp

set_option maxHeartbeats 3200000 in
set_option maxRecDepth 100000 in
theorem r6Kind_any (l : List UInt8) (hl : l.length ≤ 2000000) (w : World) : Calls Tryd.prog 58 #[.string (str l)] w fun e w' => e = .returned (.int .i64 (nmKind l)) ∧ Mod Nil w w' := by
  have hsz := str_size l
  have HD := Lib.hid (show nmKind l = if nmLower l then 1 else if nmBin l then 2 else if nmKw l then 3 else 0 from rfl)
  have HLN := Lib.hid (show nmIs l = false → nmLower l = false from fun h => by unfold nmLower; rw [h]; rfl)
  have HBN := Lib.hid (show nmBin l = ((decide (l.length = 1) || decide (l.length = 2)) && l.all binB) from rfl)
  have HKW := Lib.hid (fun w => r6Keywords_any l hl w)
  have HLEN := Lib.hid (show (0 < (kwL l).length ↔ nmKw l = true) from by
    unfold kwL
    rcases h : nmKw l with _ | _
    · simp
    · have := (kw_parts h).2.1
      simp
      omega)
  have HIS := Lib.hid (fun w => r6Is_any l (by omega) w)
  have htail : ∀ (w2 : World), nmLower l = false → nmBin l = false → Mod Nil w w2 → True := fun _ _ _ _ => trivial
  clear htail
  go_enter Tryd.func58, Tryd.ntmps58
  go_wp2_with fail
  refine (HIS.out _).mono ?_
  rintro e w2 ⟨rfl, rfl⟩
  rcases his : nmIs l with _ | _
  -- ARMS
  -- ARMS
  -- ARMS
  -- ARMS
  · have HLOW := Lib.hid (HLN.out his)
    clear his
    by_cases h12 : l.length = 1 ∨ l.length = 2
    · have hi : ((l.length : Int) == 1) = true ∨ (((l.length : Int) == 1) = false ∧ ((l.length : Int) == 2) = true) := by simp; omega
      have hle2 : l.length ≤ 2 := by omega
      have HBB := Lib.hid (show nmBin l = l.all binB by rw [HBN.out]; rcases h12 with h | h <;> simp [h])
      clear h12
      rcases hi with hi1 | ⟨hi1, hi2⟩
      all_goals
        go_wp2_with fail
        go_loopw [3, 4] (fun ov iv wr => ∃ k : Nat, iv = .int .i64 k ∧ k ≤ l.length ∧ ov = .bool ((l.take k).all binB) ∧ Mod Nil w wr) (fun _ iv _ => l.length - (intOf iv).toNat)
        case atStart => exact ⟨0, rfl, Nat.zero_le _, by simp, Mod.refl _ _⟩
        case round =>
          obtain ⟨k, rfl, hk, rfl, hm⟩ := hrel
          have HM := Lib.hid hm
          clear hm
          by_cases hlt : k < l.length
          · obtain ⟨c, hc⟩ : ∃ c, l[k]? = some c := ⟨_, List.getElem?_eq_getElem hlt⟩
            have HNX := Lib.hid (all_take_succ (p := binB) hc)
            have he : (str l).extract k (k + 1) = str [c] := by
              rw [str_extract, show k + 1 - k = 1 by omega, List.drop_eq_getElem_cons hlt, (List.getElem?_eq_some_iff.1 hc).2]
              simp
            clear hc
            rcases hok : (l.take k).all binB with _ | _
            · rw [hok] at HNX
              clear hok
              go_wp2_with fail
              refine ⟨⟨k + 1, by simp, hlt, by rw [HNX.out]; rfl, HM.out⟩, ?_⟩
              simp [intOf]
              omega
            · rw [hok] at HNX
              clear hok
              have hin := r6In_any (some ⟨wr.heap.size, 0, none⟩) 12 12 binS [c] (wr.alloc (.cells (binS.map sv).toArray 9)) rfl (by omega) (binS_rd wr _)
              rw [binS_contains] at hin
              have HIN := Lib.hid hin
              clear hin
              go_wp2_with fail
              refine HIN.out.mono ?_
              rintro e w3 ⟨rfl, rfl⟩
              go_wp2_with fail
              refine ⟨⟨k + 1, by simp, hlt, by rw [HNX.out]; rfl, HM.out.alloc _⟩, ?_⟩
              simp [intOf]
              omega
          · obtain rfl : k = l.length := by omega
            rw [List.take_length]
            rcases hall : l.all binB with _ | _
            · have HBF := Lib.hid (show nmBin l = false by rw [HBB.out, hall])
              clear hall
              go_wp2_with fail
              refine (HKW.out _).mono ?_
              rintro e w4 ⟨v, rfl, hown, hm⟩
              obtain ⟨A, c, rfl, _, _⟩ := own_slice hown
              have HM4 := Lib.hid (HM.out.trans hm)
              clear hown hm
              rcases hkw : nmKw l with _ | _
              · have hkl : (kwL l).length = 0 := by
                  have := HLEN.out
                  rw [hkw] at this
                  simp at this
                  simp [this]
                rw [hkl]
                go_wp2_with fail
                go_ret
                exact ⟨ret_int (by rw [HD.out, HLOW.out, HBF.out, hkw]; rfl), HM4.out⟩
              · have hkl : 0 < (kwL l).length := HLEN.out.2 hkw
                generalize (kwL l).length = kn at hkl ⊢
                go_wp2_with fail
                go_ret
                exact ⟨ret_int (by rw [HD.out, HLOW.out, HBF.out, hkw]; rfl), HM4.out⟩
            · have HBT := Lib.hid (show nmBin l = true by rw [HBB.out, hall])
              clear hall
              go_wp2_with fail
              go_ret
              exact ⟨ret_int (by rw [HD.out, HLOW.out, HBT.out]; rfl), HM.out⟩
    · have hi1 : ((l.length : Int) == 1) = false := by simp; omega
      have hi2 : ((l.length : Int) == 2) = false := by simp; omega
      have HBF := Lib.hid (show nmBin l = false by rw [HBN.out]; have h1 : l.length ≠ 1 := fun h => h12 (.inl h); have h2 : l.length ≠ 2 := fun h => h12 (.inr h); simp [h1, h2])
      have HM := Lib.hid (Mod.refl Nil w)
      clear h12
      go_wp2_with fail
      refine (HKW.out _).mono ?_
      rintro e w4 ⟨v, rfl, hown, hm⟩
      obtain ⟨A, c, rfl, _, _⟩ := own_slice hown
      have HM4 := Lib.hid (HM.out.trans hm)
      clear hown hm
      rcases hkw : nmKw l with _ | _
      · have hkl : (kwL l).length = 0 := by
          have := HLEN.out
          rw [hkw] at this
          simp at this
          simp [this]
        rw [hkl]
        go_wp2_with fail
        go_ret
        exact ⟨ret_int (by rw [HD.out, HLOW.out, HBF.out, hkw]; rfl), HM4.out⟩
      · have hkl : 0 < (kwL l).length := HLEN.out.2 hkw
        generalize (kwL l).length = kn at hkl ⊢
        go_wp2_with fail
        go_ret
        exact ⟨ret_int (by rw [HD.out, HLOW.out, HBF.out, hkw]; rfl), HM4.out⟩
  · obtain ⟨c0, r0, hp0⟩ : ∃ c0 r0, l = c0 :: r0 := by
      cases l with
      | nil => simp [nmIs] at his
      | cons c r => exact ⟨c, r, rfl⟩
    have hpp : 0 < l.length := by rw [hp0]; simp
    have hg0 := str_getE (l := l) (k := 0) (c := c0) (by rw [hp0]; rfl) (by omega)
    have HLO := Lib.hid (show nmLower l = smallB c0 by rw [hp0, nmLower_eq, ← hp0, his]; rfl)
    clear his hp0
    go_wp2_with fail
    refine (r6Small_any c0 _).mono ?_
    rintro e w3 ⟨rfl, rfl⟩
    rcases hsm : smallB c0 with _ | _
    · have HLOW := Lib.hid (show nmLower l = false by rw [HLO.out, hsm])
      clear hsm
      by_cases h12 : l.length = 1 ∨ l.length = 2
      · have hi : ((l.length : Int) == 1) = true ∨ (((l.length : Int) == 1) = false ∧ ((l.length : Int) == 2) = true) := by simp; omega
        have hle2 : l.length ≤ 2 := by omega
        have HBB := Lib.hid (show nmBin l = l.all binB by rw [HBN.out]; rcases h12 with h | h <;> simp [h])
        clear h12
        rcases hi with hi1 | ⟨hi1, hi2⟩
        all_goals
          go_wp2_with fail
          go_loopw [3, 4] (fun ov iv wr => ∃ k : Nat, iv = .int .i64 k ∧ k ≤ l.length ∧ ov = .bool ((l.take k).all binB) ∧ Mod Nil w wr) (fun _ iv _ => l.length - (intOf iv).toNat)
          case atStart => exact ⟨0, rfl, Nat.zero_le _, by simp, Mod.refl _ _⟩
          case round =>
            obtain ⟨k, rfl, hk, rfl, hm⟩ := hrel
            have HM := Lib.hid hm
            clear hm
            by_cases hlt : k < l.length
            · obtain ⟨c, hc⟩ : ∃ c, l[k]? = some c := ⟨_, List.getElem?_eq_getElem hlt⟩
              have HNX := Lib.hid (all_take_succ (p := binB) hc)
              have he : (str l).extract k (k + 1) = str [c] := by
                rw [str_extract, show k + 1 - k = 1 by omega, List.drop_eq_getElem_cons hlt, (List.getElem?_eq_some_iff.1 hc).2]
                simp
              clear hc
              rcases hok : (l.take k).all binB with _ | _
              · rw [hok] at HNX
                clear hok
                go_wp2_with fail
                refine ⟨⟨k + 1, by simp, hlt, by rw [HNX.out]; rfl, HM.out⟩, ?_⟩
                simp [intOf]
                omega
              · rw [hok] at HNX
                clear hok
                have hin := r6In_any (some ⟨wr.heap.size, 0, none⟩) 12 12 binS [c] (wr.alloc (.cells (binS.map sv).toArray 9)) rfl (by omega) (binS_rd wr _)
                rw [binS_contains] at hin
                have HIN := Lib.hid hin
                clear hin
                go_wp2_with fail
                refine HIN.out.mono ?_
                rintro e w3 ⟨rfl, rfl⟩
                go_wp2_with fail
                refine ⟨⟨k + 1, by simp, hlt, by rw [HNX.out]; rfl, HM.out.alloc _⟩, ?_⟩
                simp [intOf]
                omega
            · obtain rfl : k = l.length := by omega
              rw [List.take_length]
              rcases hall : l.all binB with _ | _
              · have HBF := Lib.hid (show nmBin l = false by rw [HBB.out, hall])
                clear hall
                go_wp2_with fail
                refine (HKW.out _).mono ?_
                rintro e w4 ⟨v, rfl, hown, hm⟩
                obtain ⟨A, c, rfl, _, _⟩ := own_slice hown
                have HM4 := Lib.hid (HM.out.trans hm)
                clear hown hm
                rcases hkw : nmKw l with _ | _
                · have hkl : (kwL l).length = 0 := by
                    have := HLEN.out
                    rw [hkw] at this
                    simp at this
                    simp [this]
                  rw [hkl]
                  go_wp2_with fail
                  go_ret
                  exact ⟨ret_int (by rw [HD.out, HLOW.out, HBF.out, hkw]; rfl), HM4.out⟩
                · have hkl : 0 < (kwL l).length := HLEN.out.2 hkw
                  generalize (kwL l).length = kn at hkl ⊢
                  go_wp2_with fail
                  go_ret
                  exact ⟨ret_int (by rw [HD.out, HLOW.out, HBF.out, hkw]; rfl), HM4.out⟩
              · have HBT := Lib.hid (show nmBin l = true by rw [HBB.out, hall])
                clear hall
                go_wp2_with fail
                go_ret
                exact ⟨ret_int (by rw [HD.out, HLOW.out, HBT.out]; rfl), HM.out⟩
      · have hi1 : ((l.length : Int) == 1) = false := by simp; omega
        have hi2 : ((l.length : Int) == 2) = false := by simp; omega
        have HBF := Lib.hid (show nmBin l = false by rw [HBN.out]; have h1 : l.length ≠ 1 := fun h => h12 (.inl h); have h2 : l.length ≠ 2 := fun h => h12 (.inr h); simp [h1, h2])
        have HM := Lib.hid (Mod.refl Nil w)
        clear h12
        go_wp2_with fail
        refine (HKW.out _).mono ?_
        rintro e w4 ⟨v, rfl, hown, hm⟩
        obtain ⟨A, c, rfl, _, _⟩ := own_slice hown
        have HM4 := Lib.hid (HM.out.trans hm)
        clear hown hm
        rcases hkw : nmKw l with _ | _
        · have hkl : (kwL l).length = 0 := by
            have := HLEN.out
            rw [hkw] at this
            simp at this
            simp [this]
          rw [hkl]
          go_wp2_with fail
          go_ret
          exact ⟨ret_int (by rw [HD.out, HLOW.out, HBF.out, hkw]; rfl), HM4.out⟩
        · have hkl : 0 < (kwL l).length := HLEN.out.2 hkw
          generalize (kwL l).length = kn at hkl ⊢
          go_wp2_with fail
          go_ret
          exact ⟨ret_int (by rw [HD.out, HLOW.out, HBF.out, hkw]; rfl), HM4.out⟩
    · have HLOW := Lib.hid (show nmLower l = true by rw [HLO.out, hsm])
      clear hsm
      go_wp2_with fail
      go_ret
      exact ⟨ret_int (by rw [HD.out, HLOW.out]; rfl), Mod.refl _ _⟩
end Go.Proofs.YtefloadjolpgbaaDoor

namespace Go.Proofs.YtefloadjolpgbaaDoor
open Go.RowKit

def nmClass (l : List UInt8) : Bool := nmIs l && (match l with | [] => false | c :: _ => largeB c)
def resL : List (List UInt8) := [[115, 101, 108, 102], [115, 117, 112, 101, 114], [110, 105, 108], [116, 114, 117, 101], [102, 97, 108, 115, 101]]
def nmVar (l : List UInt8) : Bool := nmLower l && !resL.contains l
def nmArgs (l : List UInt8) : Int := if nmKind l = 1 then 0 else if nmKind l = 2 then 1 else if nmKind l = 3 then ((kwL l).length : Int) else -1

theorem nmIs_head {l : List UInt8} (h : nmIs l = true) : ∃ c r, l = c :: r ∧ letB c = true := by
  cases l with
  | nil => simp [nmIs] at h
  | cons c r =>
    unfold nmIs at h
    simp only [Bool.and_eq_true] at h
    exact ⟨c, r, rfl, h.1.1⟩

theorem letB_large (c : UInt8) (h : letB c = true) : (!smallB c) = largeB c := by
  revert h
  unfold letB smallB largeB
  have := c.toNat_lt
  simp only [Bool.or_eq_true, Bool.and_eq_true, decide_eq_true_eq]
  intro h
  rcases h with h | h
  · simp [h]; omega
  · simp [h]; omega

set_option maxHeartbeats 800000 in
set_option maxRecDepth 100000 in
theorem nmClass_any (l : List UInt8) (hl : l.length ≤ 4000000) (w : World) : Calls Tryd.prog 30 #[.string (str l)] w fun e w' => e = .returned (.bool (nmClass l)) ∧ Mod Nil w w' := by
  have hsz := str_size l
  have HL : nmClass l = (nmIs l && (match l with | [] => false | c :: _ => largeB c)) := by unfold nmClass; cases l <;> rfl
  have HL := Lib.hid HL
  go_enter Tryd.func30, Tryd.ntmps30
  go_wp2_with fail
  refine (nmIs_any l hl _).mono ?_
  rintro e w2 ⟨rfl, hm⟩
  have HM := Lib.hid hm
  clear hm
  rcases hb : nmIs l with _ | _
  · go_wp2_with fail
    go_ret
    exact ⟨ret_bool (by rw [HL.out, hb]; rfl), HM.out⟩
  · obtain ⟨c, r, rfl⟩ : ∃ c r, l = c :: r := by
      cases l with
      | nil => simp [nmIs] at hb
      | cons c r => exact ⟨c, r, rfl⟩
    have hg := str_getE (l := c :: r) (k := 0) (c := c) rfl (by rw [hsz]; simp)
    have hu := u8_lt c
    have hw := conv_u8_i32 c
    have hlen : (0 : Int) < ((str (c :: r)).size : Int) := by rw [hsz]; simp
    have hlen' : 0 < (str (c :: r)).size := by rw [hsz]; simp
    have HB := Lib.hid hb
    clear hb
    go_wp2_with fail
    refine (nmLarge_any c.toNat (by omega) _).mono ?_
    rintro e w3 ⟨rfl, rfl⟩
    go_wp2_with fail
    go_ret
    exact ⟨ret_bool (by rw [HL.out, HB.out]; rfl), HM.out⟩

set_option maxHeartbeats 800000 in
set_option maxRecDepth 100000 in
theorem r6Class_any (l : List UInt8) (hl : l.length ≤ 4000000) (w : World) : Calls Tryd.prog 19 #[.string (str l)] w fun e w' => e = .returned (.bool (nmClass l)) ∧ w = w' := by
  have hsz := str_size l
  have HL : nmClass l = (nmIs l && (match l with | [] => false | c :: _ => largeB c)) := by unfold nmClass; cases l <;> rfl
  have HL := Lib.hid HL
  go_enter Tryd.func19, Tryd.ntmps19
  go_wp2_with fail
  refine (r6Is_any l hl _).mono ?_
  rintro e w2 ⟨rfl, rfl⟩
  rcases hb : nmIs l with _ | _
  · go_wp2_with fail
    go_ret
    exact ⟨ret_bool (by rw [HL.out, hb]; rfl), rfl⟩
  · obtain ⟨c, r, rfl, hc⟩ := nmIs_head hb
    have HC := Lib.hid (letB_large c hc)
    have hg := str_getE (l := c :: r) (k := 0) (c := c) rfl (by rw [hsz]; simp)
    have hu := u8_lt c
    have hlen : (0 : Int) < ((str (c :: r)).size : Int) := by rw [hsz]; simp
    have hlen' : 0 < (str (c :: r)).size := by rw [hsz]; simp
    have HB := Lib.hid hb
    clear hb hc
    go_wp2_with fail
    refine (r6Small_any c _).mono ?_
    rintro e w3 ⟨rfl, rfl⟩
    go_wp2_with fail
    go_ret
    exact ⟨ret_bool (by rw [HL.out, HB.out, HC.out]; rfl), rfl⟩

theorem resL_rd (w : World) (t : TypeId) : Rd All (w.alloc (.cells (resL.map sv).toArray t)) (some ⟨w.heap.size, 0, none⟩) (resL.map sv) := fun _ =>
  ⟨_, rfl, trivial, by simp, fun j u hu => by
    have : (⟨w.heap.size, 0, none⟩ : Addr).add j = ⟨w.heap.size, j, none⟩ := by unfold Addr.add; split <;> simp_all
    rw [this, (Blk.new w t (resL.map sv).toArray).cell j]
    simpa using hu⟩

set_option maxHeartbeats 800000 in
set_option maxRecDepth 100000 in
theorem r6Var_any (l : List UInt8) (hl : l.length ≤ 4000000) (w : World) : Calls Tryd.prog 41 #[.string (str l)] w fun e w' => e = .returned (.bool (nmVar l)) ∧ Mod Nil w w' := by
  have hsz := str_size l
  have HV := Lib.hid (show nmVar l = (nmLower l && !resL.contains l) from rfl)
  have HL : nmLower l = (nmIs l && (match l with | [] => false | c :: _ => smallB c)) := by unfold nmLower; cases l <;> rfl
  have HL := Lib.hid HL
  go_enter Tryd.func41, Tryd.ntmps41
  go_wp2_with fail
  refine (r6Is_any l hl _).mono ?_
  rintro e w2 ⟨rfl, rfl⟩
  rcases hb : nmIs l with _ | _
  · go_wp2_with fail
    go_ret
    exact ⟨ret_bool (by rw [HV.out, HL.out, hb]; rfl), Mod.refl _ _⟩
  · obtain ⟨c, r, rfl, hc⟩ := nmIs_head hb
    have hg := str_getE (l := c :: r) (k := 0) (c := c) rfl (by rw [hsz]; simp)
    have hu := u8_lt c
    have hlen : (0 : Int) < ((str (c :: r)).size : Int) := by rw [hsz]; simp
    have hlen' : 0 < (str (c :: r)).size := by rw [hsz]; simp
    have HB := Lib.hid hb
    have HIN := Lib.hid (fun w' : World => r6In_any (some ⟨w'.heap.size, 0, none⟩) 5 5 resL (c :: r) (w'.alloc (.cells (resL.map sv).toArray 9)) rfl (by omega) (resL_rd w' _))
    clear hb hc
    go_wp2_with fail
    refine (r6Small_any c _).mono ?_
    rintro e w3 ⟨rfl, rfl⟩
    rcases hs : smallB c with _ | _
    · go_wp2_with fail
      go_ret
      exact ⟨ret_bool (by rw [HV.out, HL.out, HB.out]; simp only [hs]; rfl), Mod.refl _ _⟩
    · go_wp2_with fail
      refine (HIN.out _).mono ?_
      rintro e w4 ⟨rfl, rfl⟩
      go_wp2_with fail
      go_ret
      exact ⟨ret_bool (by rw [HV.out, HL.out, HB.out]; simp only [hs]; simp), (Mod.refl _ _).alloc _⟩

theorem resL_cont (l : List UInt8) : Lib.containsS ((resL.map str).take 5) (str l) = resL.contains l := by
  rw [Bool.eq_iff_iff, Lib.containsS_iff, show (resL.map str).take 5 = resL.map str from rfl, List.contains_iff_mem, List.mem_map]
  constructor
  · rintro ⟨d, hd, he⟩
    have : d = l := by rw [← str_toList d, ← str_toList l, he]
    exact this ▸ hd
  · exact fun h => ⟨l, h, rfl⟩

set_option maxHeartbeats 800000 in
set_option maxRecDepth 100000 in
theorem nmReserved_any (w : World) : Calls Tryd.prog 67 #[] w fun e w' => e = .returned (.slice (some ⟨w.heap.size, 0, none⟩) 5 5) ∧ w' = w.alloc (.cells (resL.map sv).toArray 9) := by
  go_enter Tryd.func67, Tryd.ntmps67
  go_wp2_with fail
  go_ret
  exact ⟨rfl, rfl⟩

set_option maxHeartbeats 800000 in
set_option maxRecDepth 100000 in
theorem nmVar_any (l : List UInt8) (hl : l.length ≤ 4000000) (w : World) : Calls Tryd.prog 52 #[.string (str l)] w fun e w' => e = .returned (.bool (nmVar l)) ∧ Mod Nil w w' := by
  have HV := Lib.hid (show nmVar l = (nmLower l && !resL.contains l) from rfl)
  go_enter Tryd.func52, Tryd.ntmps52
  go_wp2_with fail
  refine (nmLower_any l hl _).mono ?_
  rintro e w2 ⟨rfl, hm⟩
  have HM := Lib.hid hm
  clear hm
  rcases hb : nmLower l with _ | _
  · go_wp2_with fail
    go_ret
    exact ⟨ret_bool (by rw [HV.out, hb]; rfl), HM.out⟩
  · have HB := Lib.hid hb
    clear hb
    have HIN := Lib.hid (fun w' : World => Tryd.slices_Contains_string w'.heap.size 0 5 5 (resL.map str) (str l) (w'.alloc (.cells (resL.map sv).toArray 9)) (by decide) (by omega) (fun j hj => by
      have hj5 : j < 5 := hj
      rw [(Blk.new w' 9 (resL.map sv).toArray).cell]
      rcases (by omega : j = 0 ∨ j = 1 ∨ j = 2 ∨ j = 3 ∨ j = 4) with rfl | rfl | rfl | rfl | rfl <;> rfl))
    go_wp2_with fail
    refine (nmReserved_any _).mono ?_
    rintro e w5 ⟨rfl, rfl⟩
    go_wp2_with fail
    refine (HIN.out _).mono ?_
    rintro e w4 ⟨rfl, rfl⟩
    go_wp2_with fail
    go_ret
    exact ⟨ret_bool (by rw [HV.out, HB.out, resL_cont]; simp), HM.out.alloc _⟩

set_option maxHeartbeats 800000 in
set_option maxRecDepth 100000 in
theorem nmArgs_any (l : List UInt8) (hl : l.length ≤ 2000000) (w : World) : Calls Tryd.prog 53 #[.string (str l)] w fun e w' => e = .returned (.int .i64 (nmArgs l)) ∧ Mod Nil w w' := by
  have HA := Lib.hid (show nmArgs l = if nmKind l = 1 then 0 else if nmKind l = 2 then 1 else if nmKind l = 3 then ((kwL l).length : Int) else -1 from rfl)
  have HK := Lib.hid (fun w => nmKeywords_any l hl w)
  go_enter Tryd.func53, Tryd.ntmps53
  go_wp2_with fail
  refine (nmKind_any l hl _).mono ?_
  rintro e w2 ⟨rfl, hm⟩
  have HM := Lib.hid hm
  clear hm
  by_cases h1 : nmKind l = 1
  · have hq : (nmKind l == 1) = true := by simp [h1]
    have HX := Lib.hid (show nmArgs l = 0 by rw [HA.out, if_pos h1])
    clear h1
    go_wp2_with fail
    go_ret
    exact ⟨ret_int HX.out.symm, HM.out⟩
  · have hq1 : (nmKind l == 1) = false := by simp [h1]
    by_cases h2 : nmKind l = 2
    · have hq2 : (nmKind l == 2) = true := by simp [h2]
      have HX := Lib.hid (show nmArgs l = 1 by rw [HA.out, if_neg h1, if_pos h2])
      clear h1 h2
      go_wp2_with fail
      go_ret
      exact ⟨ret_int HX.out.symm, HM.out⟩
    · have hq2 : (nmKind l == 2) = false := by simp [h2]
      by_cases h3 : nmKind l = 3
      · have hq3 : (nmKind l == 3) = true := by simp [h3]
        have HX := Lib.hid (show nmArgs l = ((kwL l).length : Int) by rw [HA.out, if_neg h1, if_neg h2, if_pos h3])
        clear h1 h2 h3
        go_wp2_with fail
        refine (HK.out _).mono ?_
        rintro e w4 ⟨A, c, rfl, _, hm2⟩
        have HM2 := Lib.hid (HM.out.trans hm2)
        clear hm2
        go_wp2_with fail
        go_ret
        exact ⟨ret_int HX.out.symm, HM2.out⟩
      · have hq3 : (nmKind l == 3) = false := by simp [h3]
        have HX := Lib.hid (show nmArgs l = -1 by rw [HA.out, if_neg h1, if_neg h2, if_neg h3])
        clear h1 h2 h3
        go_wp2_with fail
        go_ret
        exact ⟨ret_int HX.out.symm, HM.out⟩

set_option maxHeartbeats 800000 in
set_option maxRecDepth 100000 in
theorem r6Args_any (l : List UInt8) (hl : l.length ≤ 2000000) (w : World) : Calls Tryd.prog 42 #[.string (str l)] w fun e w' => e = .returned (.int .i64 (nmArgs l)) ∧ Mod Nil w w' := by
  have HA := Lib.hid (show nmArgs l = if nmKind l = 1 then 0 else if nmKind l = 2 then 1 else if nmKind l = 3 then ((kwL l).length : Int) else -1 from rfl)
  have HK := Lib.hid (fun w => r6Keywords_any l hl w)
  go_enter Tryd.func42, Tryd.ntmps42
  go_wp2_with fail
  refine (r6Kind_any l hl _).mono ?_
  rintro e w2 ⟨rfl, hm⟩
  have HM := Lib.hid hm
  clear hm
  by_cases h1 : nmKind l = 1
  · have hq : (nmKind l == 1) = true := by simp [h1]
    have HX := Lib.hid (show nmArgs l = 0 by rw [HA.out, if_pos h1])
    clear h1
    go_wp2_with fail
    go_ret
    exact ⟨ret_int HX.out.symm, HM.out⟩
  · have hq1 : (nmKind l == 1) = false := by simp [h1]
    by_cases h2 : nmKind l = 2
    · have hq2 : (nmKind l == 2) = true := by simp [h2]
      have HX := Lib.hid (show nmArgs l = 1 by rw [HA.out, if_neg h1, if_pos h2])
      clear h1 h2
      go_wp2_with fail
      go_ret
      exact ⟨ret_int HX.out.symm, HM.out⟩
    · have hq2 : (nmKind l == 2) = false := by simp [h2]
      by_cases h3 : nmKind l = 3
      · have hq3 : (nmKind l == 3) = true := by simp [h3]
        have HX := Lib.hid (show nmArgs l = ((kwL l).length : Int) by rw [HA.out, if_neg h1, if_neg h2, if_pos h3])
        clear h1 h2 h3
        go_wp2_with fail
        refine (HK.out _).mono ?_
        rintro e w4 ⟨v, rfl, hown, hm2⟩
        obtain ⟨A, c, rfl, _, _⟩ := own_slice hown
        have HM2 := Lib.hid (HM.out.trans hm2)
        clear hm2 hown
        go_wp2_with fail
        go_ret
        exact ⟨ret_int HX.out.symm, HM2.out⟩
      · have hq3 : (nmKind l == 3) = false := by simp [h3]
        have HX := Lib.hid (show nmArgs l = -1 by rw [HA.out, if_neg h1, if_neg h2, if_neg h3])
        clear h1 h2 h3
        go_wp2_with fail
        go_ret
        exact ⟨ret_int HX.out.symm, HM.out⟩
end Go.Proofs.YtefloadjolpgbaaDoor

namespace Go.Proofs.YtefloadjolpgbaaDoor
open Go.RowKit

/-- What an instruction takes off the stack. -/
def insTakes (x : InsT) : Int :=
  if x.op = 7 ∨ x.op = 9 then 1 else if x.op = 10 ∨ x.op = 11 then x.b + 1 else if x.op = 13 then x.a else if x.op = 14 ∨ x.op = 15 ∨ x.op = 16 ∨ x.op = 18 ∨ x.op = 19 then 1 else 0
/-- What it puts. -/
def insPuts (x : InsT) : Int := if x.op ≥ 14 then 0 else 1

/-- What the program says it puts. -/
def effPuts (o : Int) : Int := if o = 14 ∨ o = 15 ∨ o = 16 ∨ o = 17 ∨ o = 18 ∨ o = 19 then 0 else 1
theorem effPuts_eq {x : InsT} (h : x.op ≤ 19) : effPuts x.op = insPuts x := by
  unfold effPuts insPuts
  split <;> split <;> omega

theorem op_cases (o : Int) : o = 7 ∨ o = 9 ∨ o = 10 ∨ o = 11 ∨ o = 13 ∨ o = 14 ∨ o = 15 ∨ o = 16 ∨ o = 17 ∨ o = 18 ∨ o = 19 ∨ (o ≠ 7 ∧ o ≠ 9 ∧ o ≠ 10 ∧ o ≠ 11 ∧ o ≠ 13 ∧ o ≠ 14 ∧ o ≠ 15 ∧ o ≠ 16 ∧ o ≠ 17 ∧ o ≠ 18 ∧ o ≠ 19) := by omega

theorem ins_boxed (w : World) (a b c : Int) :
    (w.alloc (.cells #[.int .i64 a, .int .i64 b, .int .i64 c] 33)).cell? ⟨w.heap.size, 0, none⟩ = some (.int .i64 a) ∧ (w.alloc (.cells #[.int .i64 a, .int .i64 b, .int .i64 c] 33)).cell? ⟨w.heap.size, 1, none⟩ = some (.int .i64 b) ∧
      (w.alloc (.cells #[.int .i64 a, .int .i64 b, .int .i64 c] 33)).cell? ⟨w.heap.size, 2, none⟩ = some (.int .i64 c) := by
  have h := Blk.new w 33 #[.int .i64 a, .int .i64 b, .int .i64 c]
  exact ⟨h.cell 0, h.cell 1, h.cell 2⟩

set_option maxHeartbeats 1600000 in
set_option maxRecDepth 100000 in
theorem puts_any (x : InsT) (w : World) : Calls Tryd.prog 44 #[.agg #[.int .i64 x.op, .int .i64 x.a, .int .i64 x.b]] w fun e w' => e = .returned (.int .i64 (insPuts x)) ∧ Mod Nil w w' := by
  obtain ⟨o, a, b⟩ := x
  simp only
  have hm := (Mod.refl Nil w).alloc (.cells #[.int .i64 o, .int .i64 a, .int .i64 b] 33)
  have HM := Lib.hid hm
  obtain ⟨k0, k1, k2⟩ := ins_boxed w o a b
  clear hm
  by_cases h : o ≥ 14
  · have hq : decide (14 ≤ o) = true := by simpa using h
    have HR := Lib.hid (show insPuts ⟨o, a, b⟩ = 0 from if_pos h)
    clear h
    go_enter Tryd.func44, Tryd.ntmps44
    go_wp2_with fail
    go_ret
    exact ⟨ret_int HR.out.symm, HM.out⟩
  · have hq : decide (14 ≤ o) = false := by simpa using h
    have HR := Lib.hid (show insPuts ⟨o, a, b⟩ = 1 from if_neg h)
    clear h
    go_enter Tryd.func44, Tryd.ntmps44
    go_wp2_with fail
    go_ret
    exact ⟨ret_int HR.out.symm, HM.out⟩

set_option maxHeartbeats 1600000 in
set_option maxRecDepth 100000 in
theorem takes_any (x : InsT) (w : World) (hx : x.ok) (hb : x.op = 10 ∨ x.op = 11 → x.b ≤ 9223372036854775806) : Calls Tryd.prog 43 #[.agg #[.int .i64 x.op, .int .i64 x.a, .int .i64 x.b]] w fun e w' => e = .returned (.int .i64 (insTakes x)) ∧ Mod Nil w w' := by
  obtain ⟨o, a, b⟩ := x
  obtain ⟨ho, ha, hbb⟩ := hx
  simp only [i64] at ho ha hbb hb ⊢
  have HM := Lib.hid ((Mod.refl Nil w).alloc (.cells #[.int .i64 o, .int .i64 a, .int .i64 b] 33))
  obtain ⟨k0, k1, k2⟩ := ins_boxed w o a b
  rcases op_cases o with rfl | rfl | rfl | rfl | rfl | rfl | rfl | rfl | rfl | rfl | rfl | ⟨n1, n2, n3, n4, n5, n6, n7, n8, n9, n10, n11⟩
  rotate_right
  · have q1 : (o == 7) = false := by simp [n1]
    have q2 : (o == 9) = false := by simp [n2]
    have q3 : (o == 10) = false := by simp [n3]
    have q4 : (o == 11) = false := by simp [n4]
    have q5 : (o == 13) = false := by simp [n5]
    have q6 : (o == 14) = false := by simp [n6]
    have q7 : (o == 15) = false := by simp [n7]
    have q8 : (o == 16) = false := by simp [n8]
    have q10 : (o == 18) = false := by simp [n10]
    have q11 : (o == 19) = false := by simp [n11]
    have HR := Lib.hid (show insTakes ⟨o, a, b⟩ = 0 by simp only [insTakes, n1, n2, n3, n4, n5, n6, n7, n8, n9, n10, n11, or_self, if_false])
    clear hb n1 n2 n3 n4 n5 n6 n7 n8 n9 n10 n11
    go_enter Tryd.func43, Tryd.ntmps43
    go_wp2_with fail
    go_ret
    exact ⟨ret_int HR.out.symm, HM.out⟩
  all_goals
    try have hb2 := hb (by decide)
    clear hb
    go_enter Tryd.func43, Tryd.ntmps43
    go_wp2_with fail
    go_ret
    exact ⟨ret_int rfl, HM.out⟩

set_option maxHeartbeats 1600000 in
set_option maxRecDepth 100000 in
theorem effect_any (x : InsT) (w : World) (hx : x.ok) (hb : x.op = 10 ∨ x.op = 11 → x.b ≤ 9223372036854775806) : Calls Tryd.prog 23 #[.agg #[.int .i64 x.op, .int .i64 x.a, .int .i64 x.b]] w fun e w' => e = .returned (.tuple #[.int .i64 (insTakes x), .int .i64 (effPuts x.op)]) ∧ Mod Nil w w' := by
  obtain ⟨o, a, b⟩ := x
  obtain ⟨ho, ha, hbb⟩ := hx
  simp only [i64] at ho ha hbb hb ⊢
  have HM := Lib.hid ((Mod.refl Nil w).alloc (.cells #[.int .i64 o, .int .i64 a, .int .i64 b] 33))
  obtain ⟨k0, k1, k2⟩ := ins_boxed w o a b
  rcases op_cases o with rfl | rfl | rfl | rfl | rfl | rfl | rfl | rfl | rfl | rfl | rfl | ⟨n1, n2, n3, n4, n5, n6, n7, n8, n9, n10, n11⟩
  rotate_right
  · have q1 : (o == 7) = false := by simp [n1]
    have q2 : (o == 9) = false := by simp [n2]
    have q3 : (o == 10) = false := by simp [n3]
    have q4 : (o == 11) = false := by simp [n4]
    have q5 : (o == 13) = false := by simp [n5]
    have q6 : (o == 14) = false := by simp [n6]
    have q7 : (o == 15) = false := by simp [n7]
    have q8 : (o == 16) = false := by simp [n8]
    have q9 : (o == 17) = false := by simp [n9]
    have q10 : (o == 18) = false := by simp [n10]
    have q11 : (o == 19) = false := by simp [n11]
    have HR := Lib.hid (show insTakes ⟨o, a, b⟩ = 0 by simp only [insTakes, n1, n2, n3, n4, n5, n6, n7, n8, n9, n10, n11, or_self, if_false])
    have HP := Lib.hid (show effPuts o = 1 by simp only [effPuts, n6, n7, n8, n9, n10, n11, or_self, if_false])
    clear hb n1 n2 n3 n4 n5 n6 n7 n8 n9 n10 n11
    go_enter Tryd.func23, Tryd.ntmps23
    go_wp2_with fail
    go_ret2
    refine ⟨?_, HM.out⟩
    rw [HR.out, HP.out]
    rfl
  all_goals
    try have hb2 := hb (by decide)
    clear hb
    go_enter Tryd.func23, Tryd.ntmps23
    go_wp2_with fail
    go_ret2
    refine ⟨rfl, HM.out⟩
end Go.Proofs.YtefloadjolpgbaaDoor

namespace Go.Proofs.YtefloadjolpgbaaDoor
open Go.RowKit

/-- A literal that must not be. -/
def litBad (x : LitT) : Bool := decide (x.kind < 1) || decide (4 < x.kind) || ((x.kind == 1) && !x.text.isEmpty) || (!(x.kind == 1) && !(x.n == 0))

theorem lit_boxed (w : World) (a b : Int) (t : ByteArray) :
    (w.alloc (.cells #[.int .i64 a, .int .i64 b, .string t] 45)).cell? ⟨w.heap.size, 0, none⟩ = some (.int .i64 a) ∧ (w.alloc (.cells #[.int .i64 a, .int .i64 b, .string t] 45)).cell? ⟨w.heap.size, 1, none⟩ = some (.int .i64 b) ∧
      (w.alloc (.cells #[.int .i64 a, .int .i64 b, .string t] 45)).cell? ⟨w.heap.size, 2, none⟩ = some (.string t) := by
  have h := Blk.new w 45 #[.int .i64 a, .int .i64 b, .string t]
  exact ⟨h.cell 0, h.cell 1, h.cell 2⟩

theorem str_ne_nil (l : List UInt8) : (str l).toList.isEmpty = l.isEmpty := by rw [cstr_toList]

set_option maxHeartbeats 1600000 in
set_option maxRecDepth 100000 in
theorem litsFn_any (x : LitT) (w : World) : Calls Tryd.prog 47 #[.agg #[.int .i64 x.kind, .int .i64 x.n, .string (str x.text)]] w fun e w' => e = .returned (.bool (litBad x)) ∧ Mod Nil w w' := by
  obtain ⟨k, n, t⟩ := x
  have hne := str_ne_nil t
  have HM := Lib.hid ((Mod.refl Nil w).alloc (.cells #[.int .i64 k, .int .i64 n, .string (str t)] 45))
  have HD := Lib.hid (show litBad ⟨k, n, t⟩ = (decide (k < 1) || decide (4 < k) || ((k == 1) && !t.isEmpty) || (!(k == 1) && !(n == 0))) from rfl)
  obtain ⟨k0, k1, k2⟩ := lit_boxed w k n (str t)
  by_cases h1 : k < 1
  · have q1 : decide (k < 1) = true := by simpa using h1
    have HR := Lib.hid (show litBad ⟨k, n, t⟩ = true by rw [HD.out, q1]; rfl)
    clear h1
    go_enter Tryd.func47, Tryd.ntmps47
    go_wp2_with fail
    go_ret
    exact ⟨ret_bool HR.out.symm, HM.out⟩
  have q1 : decide (k < 1) = false := by simpa using h1
  by_cases h4 : 4 < k
  · have q4 : decide (4 < k) = true := by simpa using h4
    have HR := Lib.hid (show litBad ⟨k, n, t⟩ = true by rw [HD.out, q1, q4]; rfl)
    clear h1 h4
    go_enter Tryd.func47, Tryd.ntmps47
    go_wp2_with fail
    go_ret
    exact ⟨ret_bool HR.out.symm, HM.out⟩
  have q4 : decide (4 < k) = false := by simpa using h4
  by_cases hk : k = 1
  · have q : (k == 1) = true := by simpa using hk
    have q' : (k != 1) = false := by simpa using hk
    rcases ht : t.isEmpty with _ | _
    · rw [ht] at hne
      have hne2 : ¬ (str t).toList = [] := by
        intro h
        rw [h] at hne
        cases hne
      have HR := Lib.hid (show litBad ⟨k, n, t⟩ = true by rw [HD.out, q1, q4, q, ht]; rfl)
      clear h1 h4 hk ht
      go_enter Tryd.func47, Tryd.ntmps47
      go_wp2_with fail
      go_ret
      exact ⟨ret_bool HR.out.symm, HM.out⟩
    · rw [ht] at hne
      have hne2 : (str t).toList = [] := by
        rcases h : (str t).toList with _ | ⟨c, r⟩
        · rfl
        · rw [h] at hne
          cases hne
      have HR := Lib.hid (show litBad ⟨k, n, t⟩ = false by rw [HD.out, q1, q4, q, ht]; rfl)
      clear h1 h4 hk ht
      go_enter Tryd.func47, Tryd.ntmps47
      go_wp2_with fail
      go_ret
      exact ⟨ret_bool HR.out.symm, HM.out⟩
  · have q : (k == 1) = false := by simpa using hk
    have q' : (k != 1) = true := by simpa using hk
    rcases hn : (n == 0) with _ | _
    · have hn' : (n != 0) = true := by simp [bne, hn]
      have HR := Lib.hid (show litBad ⟨k, n, t⟩ = true by rw [HD.out, q1, q4, q, hn]; rfl)
      clear h1 h4 hk
      go_enter Tryd.func47, Tryd.ntmps47
      go_wp2_with fail
      go_ret
      exact ⟨ret_bool HR.out.symm, HM.out⟩
    · have hn' : (n != 0) = false := by simp [bne, hn]
      have HR := Lib.hid (show litBad ⟨k, n, t⟩ = false by rw [HD.out, q1, q4, q, hn]; rfl)
      clear h1 h4 hk
      go_enter Tryd.func47, Tryd.ntmps47
      go_wp2_with fail
      go_ret
      exact ⟨ret_bool HR.out.symm, HM.out⟩

set_option maxHeartbeats 1600000 in
set_option maxRecDepth 100000 in
theorem litIndexFunc_any (A : Option Addr) (n cap : Nat) (ps : List LitT) (w : World) (hn : ps.length = n) (hbig : n ≤ 4000)
    (hr : Rd All w A (ps.flatMap litC)) :
    Calls Tryd.prog 62 #[.slice A n cap, fnv 47] w fun r w' => ∃ i : Int, r = .returned (.int .i64 i) ∧ (0 ≤ i ↔ ps.any litBad = true) ∧ Mod Nil w w' := by
  have HR := Lib.hid hr
  clear hr
  unfold fnv
  go_enter Tryd.func62, Tryd.ntmps62
  go_wp2_with fail
  go_loopw [8] (fun i wr => ∃ (k : Nat), k ≤ n ∧ i = .int .i64 k ∧ (∀ j p, j < k → ps[j]? = some p → litBad p = false) ∧ Mod Nil w wr) (fun v _ => n - (intOf v).toNat)
  case atStart => exact ⟨0, Nat.zero_le _, rfl, fun j i hj => absurd hj (by omega), Mod.refl _ _⟩
  case round =>
    obtain ⟨k, hk, rfl, hno, hm⟩ := hrel
    have HNO := Lib.hid hno
    have HM := Lib.hid hm
    clear hno hm
    by_cases hlt : k < n
    · obtain ⟨p, hp⟩ : ∃ p, ps[k]? = some p := ⟨_, List.getElem?_eq_getElem (by omega)⟩
      obtain ⟨ad, rfl, hadl, a0, a1, a2⟩ := eqLit_at (HR.out.keep0 HM.out) hp
      have hbad : litBad p = true → ps.any litBad = true := fun h => by
        rw [List.any_eq_true]
        exact ⟨p, List.mem_of_getElem? hp, h⟩
      have hgood : litBad p = false → ∀ j q, j < k + 1 → ps[j]? = some q → litBad q = false := fun h j q hj hq => by
        rcases Nat.lt_or_ge j k with h1 | h1
        · exact HNO.out j q h1 hq
        · have : j = k := by omega
          subst this
          rw [hp] at hq
          cases hq
          exact h
      have HB := Lib.hid hbad
      have HG := Lib.hid hgood
      clear hbad hgood hp hn
      go_wp2_with fail
      refine (litsFn_any p _).mono ?_
      rintro e w2 ⟨rfl, hm⟩
      have HM2 := Lib.hid (HM.out.trans hm)
      clear hm
      rcases hb : litBad p with _ | _
      · have HX := Lib.hid (HG.out hb)
        clear hb
        go_wp2_with fail
        refine ⟨⟨k + 1, hlt, rfl, HX.out, HM2.out⟩, ?_⟩
        simp [intOf]
        omega
      · have HX := Lib.hid (HB.out hb)
        clear hb
        go_wp2_with fail
        go_ret
        exact ⟨_, rfl, ⟨fun _ => HX.out, fun _ => by omega⟩, HM2.out⟩
    · have HX := Lib.hid (show ps.any litBad = false by
        rw [List.any_eq_false]
        intro p hp
        obtain ⟨j, hj⟩ := List.getElem?_of_mem hp
        have := (List.getElem?_eq_some_iff.1 hj).1
        simp [HNO.out j p (by omega) hj])
      go_wp2_with fail
      go_ret
      exact ⟨_, rfl, by rw [HX.out]; simp, HM.out⟩

set_option maxHeartbeats 400000 in
set_option maxRecDepth 100000 in
theorem litContainsFunc_any (A : Option Addr) (n cap : Nat) (ps : List LitT) (w : World) (hn : ps.length = n) (hbig : n ≤ 4000)
    (hr : Rd All w A (ps.flatMap litC)) :
    Calls Tryd.prog 46 #[.slice A n cap, fnv 47] w fun r w' => r = .returned (.bool (ps.any litBad)) ∧ Mod Nil w w' := by
  have HI := Lib.hid (litIndexFunc_any A n cap ps w hn hbig hr)
  unfold fnv at HI ⊢
  clear hr
  go_enter Tryd.func46, Tryd.ntmps46
  go_wp2_with fail
  refine HI.out.mono ?_
  rintro e w2 ⟨i, rfl, hi, hm⟩
  have HM := Lib.hid hm
  have HIF := Lib.hid hi
  clear hm hi
  go_wp2_with fail
  go_ret
  refine ⟨ret_bool ?_, HM.out⟩
  have := HIF.out
  rw [Bool.eq_iff_iff]
  simpa using this

set_option maxHeartbeats 400000 in
set_option maxRecDepth 100000 in
theorem lits_any (A : Option Addr) (n cap : Nat) (ps : List LitT) (w : World) (hn : ps.length = n) (hr : Rd All w A (ps.flatMap litC)) :
    Calls Tryd.prog 29 #[.slice A n cap] w fun r w' => r = .returned (.bool (decide (n ≤ 4000) && !ps.any litBad)) ∧ Mod Nil w w' := by
  have HR := Lib.hid hr
  clear hr
  rcases hb : decide (n ≤ 4000) with _ | _
  · have hq : decide ((n : Int) ≤ 4000) = false := by simp at hb ⊢; omega
    clear hb
    go_enter Tryd.func29, Tryd.ntmps29
    go_wp2_with fail
    go_ret
    exact ⟨rfl, Mod.refl _ _⟩
  · have hle : n ≤ 4000 := by simpa using hb
    have hq : decide ((n : Int) ≤ 4000) = true := by simp; omega
    have HC := Lib.hid (litContainsFunc_any A n cap ps w hn hle HR.out)
    unfold fnv at HC
    clear hb hn
    go_enter Tryd.func29, Tryd.ntmps29
    go_wp2_with fail
    refine HC.out.mono ?_
    rintro e w2 ⟨rfl, hm⟩
    have HM := Lib.hid hm
    clear hm
    go_wp2_with fail
    go_ret
    exact ⟨rfl, HM.out⟩
end Go.Proofs.YtefloadjolpgbaaDoor

namespace Go.Proofs.YtefloadjolpgbaaDoor
open Go.RowKit

def goesL (at_ : Int) (x : InsT) : List Int :=
  if x.op = 15 ∨ x.op = 16 then [] else if x.op = 17 then [x.a] else if x.op = 18 ∨ x.op = 19 then [x.a, at_ + 1] else [at_ + 1]
def iv (i : Int) : Value := .int .i64 i

theorem go_cases (o : Int) : o = 15 ∨ o = 16 ∨ o = 17 ∨ o = 18 ∨ o = 19 ∨ (o ≠ 15 ∧ o ≠ 16 ∧ o ≠ 17 ∧ o ≠ 18 ∧ o ≠ 19) := by omega

theorem new_rd (w : World) (t : TypeId) (vs : List Value) : Rd (fun b => w.heap.size ≤ b) (w.alloc (.cells vs.toArray t)) (some ⟨w.heap.size, 0, none⟩) vs := fun _ =>
  ⟨_, rfl, Nat.le_refl _, by simp, fun j u hu => by
    have : (⟨w.heap.size, 0, none⟩ : Addr).add j = ⟨w.heap.size, j, none⟩ := by unfold Addr.add; split <;> simp_all
    rw [this, (Blk.new w t vs.toArray).cell j]
    simpa using hu⟩
theorem new_rd2 (w : World) (o : Obj) (t : TypeId) (vs : List Value) : Rd (fun b => w.heap.size ≤ b) ((w.alloc o).alloc (.cells vs.toArray t)) (some ⟨w.heap.size + 1, 0, none⟩) vs := by
  have h := new_rd (w.alloc o) t vs
  rw [show (w.alloc o).heap.size = w.heap.size + 1 by simp] at h
  exact h.mono fun b hb => by omega

set_option maxHeartbeats 1600000 in
set_option maxRecDepth 100000 in
theorem goes_any (at_ : Int) (x : InsT) (w : World) (ha : 0 ≤ at_) (ha2 : at_ ≤ 1000000) : Calls Tryd.prog 24 #[.int .i64 at_, .agg #[.int .i64 x.op, .int .i64 x.a, .int .i64 x.b]] w fun e w' =>
    ∃ A c, e = .returned (.slice A (goesL at_ x).length c) ∧ (goesL at_ x).length ≤ c ∧ c ≤ 2 ∧ Rd (fun b => w.heap.size ≤ b) w' A ((goesL at_ x).map iv) ∧ Mod Nil w w' := by
  obtain ⟨o, a, b⟩ := x
  simp only
  have HM0 := Lib.hid ((Mod.refl Nil w).alloc (.cells #[.int .i64 o, .int .i64 a, .int .i64 b] 33))
  obtain ⟨k0, k1, k2⟩ := ins_boxed w o a b
  have HA := Lib.hid (new_rd2 w (.cells #[.int .i64 o, .int .i64 a, .int .i64 b] 33) 3)
  rcases go_cases o with rfl | rfl | rfl | rfl | rfl | ⟨n1, n2, n3, n4, n5⟩
  · go_enter Tryd.func24, Tryd.ntmps24
    go_wp2_with fail
    go_ret
    exact ⟨none, 0, rfl, Nat.le_refl _, by omega, Rd.nil _ _ _, HM0.out⟩
  · go_enter Tryd.func24, Tryd.ntmps24
    go_wp2_with fail
    go_ret
    exact ⟨none, 0, rfl, Nat.le_refl _, by omega, Rd.nil _ _ _, HM0.out⟩
  · go_enter Tryd.func24, Tryd.ntmps24
    go_wp2_with fail
    go_ret
    exact ⟨_, 1, rfl, Nat.le_refl _, by omega, HA.out [iv a], HM0.out.alloc _⟩
  · go_enter Tryd.func24, Tryd.ntmps24
    go_wp2_with fail
    go_ret
    exact ⟨_, 2, rfl, Nat.le_refl _, by omega, HA.out [iv a, iv (at_ + 1)], HM0.out.alloc _⟩
  · go_enter Tryd.func24, Tryd.ntmps24
    go_wp2_with fail
    go_ret
    exact ⟨_, 2, rfl, Nat.le_refl _, by omega, HA.out [iv a, iv (at_ + 1)], HM0.out.alloc _⟩
  · have q1 : (o == 15) = false := by simp [n1]
    have q2 : (o == 16) = false := by simp [n2]
    have q3 : (o == 17) = false := by simp [n3]
    have q4 : (o == 18) = false := by simp [n4]
    have q5 : (o == 19) = false := by simp [n5]
    have HR := Lib.hid (show goesL at_ ⟨o, a, b⟩ = [at_ + 1] by simp only [goesL, n1, n2, n3, n4, n5, or_self, if_false])
    clear n1 n2 n3 n4 n5
    go_enter Tryd.func24, Tryd.ntmps24
    go_wp2_with fail
    go_ret
    rw [HR.out]
    exact ⟨_, 1, rfl, Nat.le_refl _, by omega, HA.out [iv (at_ + 1)], HM0.out.alloc _⟩

/-- Literal i of the code is there and of the kind. -/
def litIs (c : CodeT) (i k : Int) : Bool := decide (0 ≤ i) && (match c.lits[i.toNat]? with | none => false | some x => x.kind == k)

theorem code_new (w : World) (c : CodeT) (v : CodeV) :
    (w.alloc (.cells #[.int .i64 c.args, .int .i64 c.vars, .slice v.A2 c.lits.length v.c2, .slice v.A3 c.ins.length v.c3, .slice v.A4 c.blocks.length v.c4, .string (str c.cls)] 26)).cell? ⟨w.heap.size, 2, none⟩ = some (.slice v.A2 c.lits.length v.c2) :=
  (code_boxed (Blk.new w 26 (codeArr c v))).2.2.1

set_option maxHeartbeats 1600000 in
set_option maxRecDepth 100000 in
theorem rLit_any (c : CodeT) (v : CodeV) (i k : Int) (w : World) (hf : ∀ w', Mod Nil w w' → CodeF w' c v) : Calls Tryd.prog 39 #[.agg (codeArr c v), .int .i64 i, .int .i64 k] w fun e w' => e = .returned (.bool (litIs c i k)) ∧ Mod Nil w w' := by
  have HM := Lib.hid ((Mod.refl Nil w).alloc (.cells (codeArr c v) 26))
  have HF := Lib.hid (hf _ HM.out)
  have k2 := code_new w c v
  have HD := Lib.hid (show litIs c i k = (decide (0 ≤ i) && (match c.lits[i.toNat]? with | none => false | some x => x.kind == k)) from rfl)
  unfold codeArr at HM HF ⊢
  clear hf
  rcases hi0 : decide (0 ≤ i) with _ | _
  · have HR := Lib.hid (show litIs c i k = false by rw [HD.out, hi0]; rfl)
    have hi0' : ¬ (0 ≤ i) := by simpa using hi0
    go_enter Tryd.func39, Tryd.ntmps39
    go_wp2_with fail
    go_ret
    exact ⟨ret_bool HR.out.symm, HM.out⟩
  · have hi0' : 0 ≤ i := by simpa using hi0
    obtain ⟨j, rfl⟩ : ∃ j : Nat, i = j := ⟨i.toNat, by omega⟩
    have hq0 := hi0
    rw [hi0, Int.toNat_natCast] at HD
    by_cases hlt : j < c.lits.length
    · obtain ⟨x, hx⟩ : ∃ x, c.lits[j]? = some x := ⟨_, List.getElem?_eq_getElem hlt⟩
      obtain ⟨ad, hA, hadl, a0, a1, a2⟩ := eqLit_at HF.out.r2 hx
      have HR := Lib.hid (show litIs c j k = (x.kind == k) by rw [HD.out, hx]; rfl)
      have hlt' : (j : Int) < (c.lits.length : Int) := by omega
      have hq : decide ((j : Int) < (c.lits.length : Int)) = true := by simpa using hlt
      rw [hA] at k2 HM ⊢
      rw [hA] at a0 a1 a2
      have HLE := Lib.hid HF.out.n2
      have HLE2 := Lib.hid HF.out.m2
      clear hx
      generalize c.lits.length = n at *
      go_enter Tryd.func39, Tryd.ntmps39
      go_wp2_with fail
      go_ret
      exact ⟨ret_bool HR.out.symm, HM.out⟩
    · have HR := Lib.hid (show litIs c j k = false by rw [HD.out, List.getElem?_eq_none (by omega)]; rfl)
      have hq : decide ((j : Int) < (c.lits.length : Int)) = false := by simpa using hlt
      have hlt' : ¬ ((j : Int) < (c.lits.length : Int)) := by omega
      go_enter Tryd.func39, Tryd.ntmps39
      go_wp2_with fail
      go_ret
      exact ⟨ret_bool HR.out.symm, HM.out⟩
end Go.Proofs.YtefloadjolpgbaaDoor

namespace Go.Proofs.YtefloadjolpgbaaDoor
open Go.RowKit

def insNext (x : InsT) (h : Int) : Int := h - insTakes x + effPuts x.op

/-- Heights that fit: a place's, known for those that are reached. -/
structure Fits (ins : List InsT) (f : Nat → Option Int) : Prop where
  zero : f 0 = some 0
  at_ : ∀ i h, f i = some h → ∃ x, ins[i]? = some x ∧ insTakes x ≤ h ∧ insNext x h ≤ 4000 ∧ ∀ t ∈ goesL i x, 0 ≤ t ∧ f t.toNat = some (insNext x h)

/-- What a list of heights says; below zero: nothing yet. -/
def seen (o : List Int) (i : Nat) : Option Int := match o[i]? with
  | none => none
  | some h => if 0 ≤ h then some h else none

theorem seen_some {o : List Int} {i : Nat} {h : Int} : seen o i = some h ↔ o[i]? = some h ∧ 0 ≤ h := by
  unfold seen
  rcases o[i]? with _ | k
  · simp
  · simp only
    split
    · rename_i hk
      constructor
      · intro e; cases e; exact ⟨rfl, hk⟩
      · rintro ⟨e, _⟩; exact e
    · rename_i hk
      constructor
      · intro e; cases e
      · rintro ⟨e, h0⟩; cases e; omega
theorem seen_lt {o : List Int} {i : Nat} {h : Int} (hs : seen o i = some h) : i < o.length := (List.getElem?_eq_some_iff.1 (seen_some.1 hs).1).1

/-- A place whose height is known is gone through. -/
def Done (ins : List InsT) (o : List Int) (i : Nat) : Prop :=
  ∀ h, seen o i = some h → ∃ x, ins[i]? = some x ∧ insTakes x ≤ h ∧ insNext x h ≤ 4000 ∧ ∀ t ∈ goesL i x, 0 ≤ t ∧ seen o t.toNat = some (insNext x h)

/-- How many places are not known. -/
def unk (o : List Int) : Nat := o.countP fun h => decide (h < 0)

theorem unk_set {o : List Int} {i : Nat} {h k : Int} (hi : o[i]? = some k) (hk : k < 0) (hh : 0 ≤ h) : unk (o.set i h) + 1 = unk o := by
  induction o generalizing i with
  | nil => simp at hi
  | cons y r ih =>
    cases i with
    | zero =>
      simp at hi
      subst hi
      simp only [unk, List.set_cons_zero, List.countP_cons]
      simp [hk]
      omega
    | succ i =>
      simp at hi
      have := ih hi
      simp only [unk, List.set_cons_succ, List.countP_cons] at this ⊢
      omega
theorem seen_set_same {o : List Int} {i : Nat} {h : Int} (hi : i < o.length) (hh : 0 ≤ h) : seen (o.set i h) i = some h := by
  rw [seen_some, List.getElem?_set_self hi]
  exact ⟨rfl, hh⟩
theorem seen_set_ne {o : List Int} {i j : Nat} {h : Int} (hij : i ≠ j) : seen (o.set i h) j = seen o j := by
  unfold seen
  rw [List.getElem?_set_ne hij]

/-- A place is gone through: what it says of the next ones is known. -/
structure Thru (ins : List InsT) (o : List Int) (most : Int) (i : Nat) (h : Int) : Prop where
  thru : ∃ x, ins[i]? = some x ∧ insTakes x ≤ h ∧ insNext x h ≤ 4000 ∧ h ≤ most ∧ insNext x h ≤ most ∧ ∀ t ∈ goesL i x, 0 ≤ t ∧ seen o t.toNat = some (insNext x h)

def InsFit (x : InsT) : Prop := 0 ≤ x.op ∧ x.op ≤ 19 ∧ 0 ≤ insTakes x ∧ insTakes x ≤ 3000000

/-- What holds of the heights found so far; q is to be gone through yet, and one place more (if it is one). -/
structure HInv (ins : List InsT) (o : List Int) (q : List Nat) (most : Int) (at_ : Option Nat) : Prop where
  len : o.length = ins.length
  zero : seen o 0 = some 0
  rng : ∀ (i : Nat) h, o[i]? = some h → h = -1 ∨ (0 ≤ h ∧ h ≤ 4000)
  que : ∀ i ∈ q, ∃ h, seen o i = some h
  done : ∀ i h, seen o i = some h → i ∉ q → some i ≠ at_ → Thru ins o most i h
  fit : ∀ f, Fits ins f → ∀ i h, seen o i = some h → f i = some h
  m0 : 0 ≤ most
  m1 : most = 0 ∨ ∃ i h x, seen o i = some h ∧ ins[i]? = some x ∧ (most = h ∨ most = insNext x h)

theorem ins_next {x : InsT} (hx : InsFit x) {h : Int} (h0 : insTakes x ≤ h) : 0 ≤ insNext x h := by
  unfold insNext effPuts
  split <;> omega

theorem HInv.init {ins : List InsT} (h : 1 ≤ ins.length) : HInv ins ((List.replicate ins.length (-1)).set 0 0) [0] 0 none := by
  have key : ∀ i h', seen ((List.replicate ins.length (-1 : Int)).set 0 0) i = some h' → i = 0 ∧ h' = 0 := by
    intro i h' hs
    rw [seen_some] at hs
    cases i with
    | zero => rw [List.getElem?_set_self (by simp; omega)] at hs; exact ⟨rfl, by have := hs.1; cases this; rfl⟩
    | succ i =>
      rw [List.getElem?_set_ne (by omega), List.getElem?_replicate] at hs
      split at hs
      · have := hs.1; cases this; omega
      · cases hs.1
  refine ⟨by simp, seen_set_same (by simp; omega) (by omega), fun i h' hi => ?_, fun i hi => ?_, fun i h' hs hq => ?_, fun f hf i h' hs => ?_, by omega, .inl rfl⟩
  · cases i with
    | zero => rw [List.getElem?_set_self (by simp; omega)] at hi; cases hi; omega
    | succ i =>
      rw [List.getElem?_set_ne (by omega), List.getElem?_replicate] at hi
      split at hi
      · cases hi; omega
      · cases hi
  · simp at hi
    subst hi
    exact ⟨0, seen_set_same (by simp; omega) (by omega)⟩
  · exact absurd (by simp [(key i h' hs).1]) hq
  · obtain ⟨rfl, rfl⟩ := key i h' hs
    exact hf.zero

/-- The one ahead is taken up. -/
theorem HInv.pop {ins : List InsT} {o : List Int} {q : List Nat} {i : Nat} {most : Int} {h : Int} {x : InsT} (hi : HInv ins o (i :: q) most none) (hs : seen o i = some h) (hx : ins[i]? = some x) {most' : Int} (hm : most ≤ most') (hm1 : most' = most ∨ most' = h ∨ most' = insNext x h) :
    HInv ins o q most' (some i) := by
  refine ⟨hi.len, hi.zero, hi.rng, fun j hj => hi.que j (List.mem_cons_of_mem _ hj), fun j k hk hq hj => ?_, hi.fit, by have := hi.m0; omega, ?_⟩
  · obtain ⟨y, h1, h2, h3, h4, h5, h6⟩ := (hi.done j k hk (by simp only [List.mem_cons, not_or]; exact ⟨fun e => hj (by rw [e]), hq⟩) (by simp)).thru
    exact ⟨y, h1, h2, h3, by omega, by omega, h6⟩
  · rcases hm1 with rfl | h1 | h1
    · exact hi.m1
    · exact .inr ⟨i, h, x, hs, hx, .inl h1⟩
    · exact .inr ⟨i, h, x, hs, hx, .inr h1⟩

/-- It does not fit: neither does anything. -/
theorem HInv.bad_take {ins : List InsT} {o : List Int} {q : List Nat} {i : Nat} {most : Int} {h : Int} {x : InsT} {a : Option Nat} (hi : HInv ins o q most a) (hs : seen o i = some h) (hx : ins[i]? = some x) (hb : h < insTakes x ∨ 4000 < insNext x h) : ¬ ∃ f, Fits ins f := by
  rintro ⟨f, hf⟩
  obtain ⟨y, h1, h2, h3, _⟩ := hf.at_ i h (hi.fit f hf i h hs)
  rw [hx] at h1
  cases h1
  omega
theorem HInv.bad_far {ins : List InsT} {o : List Int} {q : List Nat} {i : Nat} {most : Int} {h : Int} {x : InsT} {a : Option Nat} (hi : HInv ins o q most a) (hs : seen o i = some h) (hx : ins[i]? = some x) {t : Int} (ht : t ∈ goesL i x) (hb : t < 0 ∨ (ins.length : Int) ≤ t) : ¬ ∃ f, Fits ins f := by
  rintro ⟨f, hf⟩
  obtain ⟨y, h1, h2, h3, h4⟩ := hf.at_ i h (hi.fit f hf i h hs)
  rw [hx] at h1
  cases h1
  obtain ⟨h5, h6⟩ := h4 t ht
  obtain ⟨z, h7, _⟩ := hf.at_ _ _ h6
  have := (List.getElem?_eq_some_iff.1 h7).1
  omega
theorem HInv.bad_other {ins : List InsT} {o : List Int} {q : List Nat} {i : Nat} {most : Int} {h : Int} {x : InsT} {a : Option Nat} (hi : HInv ins o q most a) (hs : seen o i = some h) (hx : ins[i]? = some x) {t : Nat} (ht : (t : Int) ∈ goesL i x) {k : Int} (hk : seen o t = some k) (hne : k ≠ insNext x h) : ¬ ∃ f, Fits ins f := by
  rintro ⟨f, hf⟩
  obtain ⟨y, h1, h2, h3, h4⟩ := hf.at_ i h (hi.fit f hf i h hs)
  rw [hx] at h1
  cases h1
  obtain ⟨h5, h6⟩ := h4 t ht
  rw [Int.toNat_natCast, hi.fit f hf t k hk] at h6
  cases h6
  exact hne rfl

theorem seen_grow {o : List Int} {t : Nat} {h : Int} (ht : seen o t = none) (hl : t < o.length) (hh : 0 ≤ h) {j : Nat} {k : Int} (hk : seen o j = some k) : seen (o.set t h) j = some k := by
  by_cases hj : t = j
  · subst hj
    rw [ht] at hk
    cases hk
  · rw [seen_set_ne hj]
    exact hk

/-- One place more is known. -/
theorem HInv.push {ins : List InsT} {o : List Int} {q : List Nat} {i : Nat} {most : Int} {h : Int} {x : InsT} (hi : HInv ins o q most (some i)) (hs : seen o i = some h) (hx : ins[i]? = some x) {t : Nat} (ht : (t : Int) ∈ goesL i x) (hl : t < o.length) (hk : seen o t = none) (hn0 : 0 ≤ insNext x h) (hn : insNext x h ≤ 4000) :
    HInv ins (o.set t (insNext x h)) (q ++ [t]) most (some i) := by
  have hsame : seen (o.set t (insNext x h)) t = some (insNext x h) := seen_set_same hl hn0
  have hback : ∀ j k, j ≠ t → seen (o.set t (insNext x h)) j = some k → seen o j = some k := fun j k hj hk => by rwa [seen_set_ne (Ne.symm hj)] at hk
  refine ⟨by rw [List.length_set, hi.len], seen_grow hk hl hn0 hi.zero, fun j k hj => ?_, fun j hj => ?_, fun j k hj hq hne => ?_, fun f hf j k hj => ?_, hi.m0, ?_⟩
  · by_cases e : t = j
    · subst e
      rw [List.getElem?_set_self hl] at hj
      cases hj
      exact .inr ⟨hn0, hn⟩
    · rw [List.getElem?_set_ne e] at hj
      exact hi.rng j k hj
  · rcases List.mem_append.1 hj with hj | hj
    · obtain ⟨k, hk'⟩ := hi.que j hj
      exact ⟨k, seen_grow hk hl hn0 hk'⟩
    · simp at hj
      subst hj
      exact ⟨_, hsame⟩
  · simp only [List.mem_append, List.mem_singleton, not_or] at hq
    obtain ⟨y, h1, h2, h3, h4, h5, h6⟩ := (hi.done j k (hback j k hq.2 hj) hq.1 hne).thru
    exact ⟨y, h1, h2, h3, h4, h5, fun u hu => ⟨(h6 u hu).1, seen_grow hk hl hn0 (h6 u hu).2⟩⟩
  · by_cases e : j = t
    · subst e
      rw [hsame] at hj
      cases hj
      obtain ⟨y, h1, _, _, h4⟩ := hf.at_ i h (hi.fit f hf i h hs)
      rw [hx] at h1
      cases h1
      have := (h4 j ht).2
      rwa [Int.toNat_natCast] at this
    · exact hi.fit f hf j k (hback j k e hj)
  · rcases hi.m1 with h1 | ⟨j, k, y, h1, h2, h3⟩
    · exact .inl h1
    · exact .inr ⟨j, k, y, seen_grow hk hl hn0 h1, h2, h3⟩

/-- It is gone through. -/
theorem HInv.over {ins : List InsT} {o : List Int} {q : List Nat} {i : Nat} {most : Int} {h : Int} {x : InsT} (hi : HInv ins o q most (some i)) (hs : seen o i = some h) (hx : ins[i]? = some x) (h1 : insTakes x ≤ h) (h2 : insNext x h ≤ 4000) (h3 : h ≤ most) (h4 : insNext x h ≤ most)
    (h5 : ∀ t ∈ goesL i x, 0 ≤ t ∧ seen o t.toNat = some (insNext x h)) : HInv ins o q most none := by
  refine ⟨hi.len, hi.zero, hi.rng, hi.que, fun j k hk hq _ => ?_, hi.fit, hi.m0, hi.m1⟩
  by_cases e : j = i
  · subst e
    rw [hs] at hk
    cases hk
    exact ⟨x, hx, h1, h2, h3, h4, h5⟩
  · exact hi.done j k hk hq fun he => e (by cases he; rfl)

/-- The greatest height. -/
structure MostIs (ins : List InsT) (o : List Int) (most : Int) : Prop where
  ge : ∀ i h x, seen o i = some h → ins[i]? = some x → h ≤ most ∧ insNext x h ≤ most
  m0 : 0 ≤ most
  m1 : most = 0 ∨ ∃ i h x, seen o i = some h ∧ ins[i]? = some x ∧ (most = h ∨ most = insNext x h)
theorem HInv.fits {ins : List InsT} {o : List Int} {most : Int} (hi : HInv ins o [] most none) : Fits ins (seen o) ∧ MostIs ins o most := by
  refine ⟨⟨hi.zero, fun i h hs => ?_⟩, ⟨fun i h x hs hx => ?_, hi.m0, hi.m1⟩⟩
  · obtain ⟨y, h1, h2, h3, h4, h5, h6⟩ := (hi.done i h hs (by simp) (by simp)).thru
    exact ⟨y, h1, h2, h3, h6⟩
  · obtain ⟨y, h1, h2, h3, h4, h5, h6⟩ := (hi.done i h hs (by simp) (by simp)).thru
    rw [hx] at h1
    cases h1
    exact ⟨h4, h5⟩
end Go.Proofs.YtefloadjolpgbaaDoor
