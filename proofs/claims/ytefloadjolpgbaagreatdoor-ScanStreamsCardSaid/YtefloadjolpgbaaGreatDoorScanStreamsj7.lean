/- Parts of the proof of ScanStreams, joined: RnX RnK RnL RnM RnT RnU RnV PhSt. -/
import Derived.Test.YtefloadjolpgbaaGreatDoorScanStreamsj6
import Derived.Outline
import Derived.WalkMore
namespace Go.Proofs.YtefloadjolpgbaaGreatDoor
open Go.RowKit

theorem dig_cmp (c : UInt8) : digB c = !(decide ((c.toNat : Int) < 48) || decide (57 < (c.toNat : Int))) := by
  unfold digB
  rw [Bool.eq_iff_iff]
  simp
  omega

set_option maxHeartbeats 1600000 in
set_option maxRecDepth 100000 in
theorem r6Is_any (l : List UInt8) (hl : l.length ≤ 4000000) (w : World) : Calls Tryz.prog 19 #[.string (str l)] w fun e w' => e = .returned (.bool (nmIs l)) ∧ w = w' := by
  have hsz := str_size l
  rcases l with _ | ⟨c, r⟩
  · have hz : (str []).size = 0 := rfl
    clear hsz
    go_enter Tryz.func19, Tryz.ntmps19
    go_wp2_with fail
    go_ret
    exact ⟨rfl, rfl⟩
  · have hg := str_getE (l := c :: r) (k := 0) (c := c) rfl (by rw [hsz]; simp)
    have HIS := Lib.hid (show nmIs (c :: r) = (letB c && (c :: r).all wrdB && decide ((c :: r).length ≤ 40)) from rfl)
    have hpos : 1 ≤ (c :: r).length := by simp
    obtain ⟨l, hL⟩ : ∃ l, l = c :: r := ⟨_, rfl⟩
    rw [← hL] at hsz HIS hpos hl ⊢
    have hg : ∀ h, (str l)[0]'h = c := by subst hL; exact fun h => str_getE (l := c :: r) (k := 0) (c := c) rfl h
    clear hL
    by_cases h40 : l.length ≤ 40
    · go_enter Tryz.func19, Tryz.ntmps19
      go_wp2_with fail
      refine (r6Letter_any c _).mono ?_
      rintro e w2 ⟨rfl, rfl⟩
      rcases hlet : letB c with _ | _
      · have HX := Lib.hid (show nmIs l = false by rw [HIS.out, hlet]; rfl)
        go_wp2_with fail
        go_ret
        exact ⟨ret_bool (by rw [HX.out]), rfl⟩
      · have HX := Lib.hid (show nmIs l = l.all wrdB by rw [HIS.out, hlet]; simp [h40])
        clear hlet
        go_wp2_with fail
        go_loopw [3] (fun v wr => ∃ k : Nat, v = .int .i64 (k : Nat) ∧ k ≤ l.length ∧ (∀ i d, i < k → l[i]? = some d → wrdB d = true) ∧ w = wr) (fun v _ => l.length - (intOf v).toNat)
        case atStart => exact ⟨0, rfl, Nat.zero_le _, fun i d hi => absurd hi (by omega), rfl⟩
        case round =>
          obtain ⟨k, rfl, hk, hall, rfl⟩ := hrel
          have HALL := Lib.hid hall
          clear hall hg
          by_cases hlt : k < l.length
          · obtain ⟨d, hd⟩ : ∃ d, l[k]? = some d := ⟨_, List.getElem?_eq_getElem hlt⟩
            have hgd := str_getE hd (by omega)
            have hu := u8_lt d
            have HD := Lib.hid hd
            have HGOOD := Lib.hid (show wrdB d = true → ∀ i e, i < k + 1 → l[i]? = some e → wrdB e = true from fun h i e hi he => by
              rcases Nat.lt_or_ge i k with h1 | h1
              · exact HALL.out i e h1 he
              · have : i = k := by omega
                subst this
                rw [HD.out] at he
                cases he
                exact h)
            have HBAD := Lib.hid (show wrdB d = false → nmIs l = false from fun h => by
              rw [HX.out, List.all_eq_false]
              exact ⟨d, List.mem_of_getElem? HD.out, by simp [h]⟩)
            clear hd
            go_wp2_with fail
            refine (r6Letter_any d _).mono ?_
            rintro e w2 ⟨rfl, rfl⟩
            rcases hld : letB d with _ | _
            · rcases hdd : digB d with _ | _
              · have HY := Lib.hid (HBAD.out (by unfold wrdB; rw [hld, hdd]; rfl))
                rw [dig_cmp] at hdd
                by_cases h48 : (d.toNat : Int) < 48
                · go_wp2_with fail
                  go_ret
                  exact ⟨ret_bool (by rw [HY.out]), rfl⟩
                · have h57 : 57 < (d.toNat : Int) := by simp at hdd; omega
                  clear hdd
                  go_wp2_with fail
                  go_ret
                  exact ⟨ret_bool (by rw [HY.out]), rfl⟩
              · have HY := Lib.hid (HGOOD.out (by unfold wrdB; rw [hdd]; simp))
                rw [dig_cmp] at hdd
                have h48 : ¬ (d.toNat : Int) < 48 := by simp at hdd; omega
                have h57 : ¬ 57 < (d.toNat : Int) := by simp at hdd; omega
                clear hdd
                go_wp2_with fail
                refine ⟨⟨k + 1, by simp, hlt, HY.out, trivial⟩, ?_⟩
                simp [intOf]
                omega
            · have HY := Lib.hid (HGOOD.out (let_wrd hld))
              go_wp2_with fail
              refine ⟨⟨k + 1, by simp, hlt, HY.out, trivial⟩, ?_⟩
              simp [intOf]
              omega
          · have HY := Lib.hid (show nmIs l = true by
              rw [HX.out, List.all_eq_true]
              intro d hd
              obtain ⟨i, hi⟩ := List.getElem?_of_mem hd
              exact HALL.out i d (by have := (List.getElem?_eq_some_iff.1 hi).1; omega) hi)
            go_wp2_with fail
            go_ret
            exact ⟨ret_bool (by rw [HY.out]), rfl⟩
    · have HX := Lib.hid (show nmIs l = false by rw [HIS.out]; simp [h40])
      go_enter Tryz.func19, Tryz.ntmps19
      go_wp2_with fail
      go_ret
      exact ⟨ret_bool (by rw [HX.out]), rfl⟩

set_option maxHeartbeats 1600000 in
set_option maxRecDepth 100000 in
theorem r6In_any (A : Option Addr) (n cap : Nat) (ls : List (List UInt8)) (s : List UInt8) (w : World) (hn : ls.length = n) (hbig : n ≤ 1000) (hr : Rd All w A (ls.map sv)) :
    Calls Tryz.prog 16 #[.slice A n cap, .string (str s)] w fun e w' => e = .returned (.bool (ls.contains s)) ∧ w = w' := by
  have HR := Lib.hid hr
  have HN := Lib.hid hn
  clear hr hn
  go_enter Tryz.func16, Tryz.ntmps16
  go_wp2_with fail
  go_loopw [5] (fun v wr => ∃ k : Nat, v = .int .i64 (k : Nat) ∧ k ≤ n ∧ (∀ i d, i < k → ls[i]? = some d → d ≠ s) ∧ w = wr) (fun v _ => n - (intOf v).toNat)
  case atStart => exact ⟨0, rfl, Nat.zero_le _, fun i d hi => absurd hi (by omega), rfl⟩
  case round =>
    obtain ⟨k, rfl, hk, hall, rfl⟩ := hrel
    have HALL := Lib.hid hall
    clear hall
    by_cases hlt : k < n
    · obtain ⟨d, hd⟩ : ∃ d, ls[k]? = some d := ⟨_, List.getElem?_eq_getElem (by rw [HN.out]; exact hlt)⟩
      have hcell : (ls.map sv)[k]? = some (sv d) := by rw [List.getElem?_map, hd]; rfl
      obtain ⟨ad, rfl, _, hadl, hcell'⟩ := HR.out.at_ hcell
      simp only [sv] at hcell'
      have hbq : ((str d).toList == (str s).toList) = (d == s) := by rw [str_toList, str_toList]
      have HD := Lib.hid hd
      clear hcell hd
      by_cases hds : d = s
      · have HX := Lib.hid (show ls.contains s = true by rw [List.contains_iff_mem]; exact hds ▸ List.mem_of_getElem? HD.out)
        have hq : (d == s) = true := by simp [hds]
        rw [hq] at hbq
        clear hds hq
        go_wp2_with fail
        go_ret
        exact ⟨ret_bool (by rw [HX.out]), rfl⟩
      · have HX := Lib.hid (show ∀ i e, i < k + 1 → ls[i]? = some e → e ≠ s from fun i e hi he => by
          rcases Nat.lt_or_ge i k with h1 | h1
          · exact HALL.out i e h1 he
          · have : i = k := by omega
            subst this
            rw [HD.out] at he
            cases he
            exact hds)
        have hq : (d == s) = false := by simp [hds]
        rw [hq] at hbq
        clear hds hq
        go_wp2_with fail
        refine ⟨⟨k + 1, by simp, hlt, HX.out, trivial⟩, ?_⟩
        simp [intOf]
        omega
    · have HX := Lib.hid (show ls.contains s = false by
        rw [Bool.eq_false_iff, Ne, List.contains_iff_mem]
        intro h
        obtain ⟨i, hi⟩ := List.getElem?_of_mem h
        exact HALL.out i s (by have := (List.getElem?_eq_some_iff.1 hi).1; rw [HN.out] at this; omega) hi rfl)
      go_wp2_with fail
      go_ret
      exact ⟨ret_bool (by rw [HX.out]), rfl⟩
end Go.Proofs.YtefloadjolpgbaaGreatDoor

namespace Go.Proofs.YtefloadjolpgbaaGreatDoor
open Go.RowKit

structure KwSt (w : World) (l : List UInt8) (v : Value) (fr i : Nat) (done : List (List UInt8)) (wr : World) : Prop where
  le : fr ≤ i
  il : i ≤ l.length
  eq : splitC l = (done ++ (splitC (l.drop fr)).1, (splitC (l.drop fr)).2)
  low : ∀ p ∈ done, nmLower p = true
  no : ∀ j c, fr ≤ j → j < i → l[j]? = some c → c ≠ 58
  own : wr.ownsRow w.heap.size 9 1 v done.length (done.map fun p => sv (p ++ [58]))
  mod : Mod Nil w wr
  len : done.length ≤ fr

theorem seg_no {l : List UInt8} {fr i : Nat} (h : ∀ j c, fr ≤ j → j < i → l[j]? = some c → c ≠ 58) : ∀ c ∈ (l.drop fr).take (i - fr), c ≠ 58 := by
  intro c hc
  obtain ⟨j, hj⟩ := List.getElem?_of_mem hc
  rw [List.getElem?_take] at hj
  split at hj
  · rw [List.getElem?_drop] at hj
    exact h (fr + j) c (by omega) (by omega) hj
  · cases hj
/-- At a colon. -/
theorem KwSt.split {w wr : World} {l : List UInt8} {v : Value} {fr i : Nat} {done : List (List UInt8)} (h : KwSt w l v fr i done wr) (hc : l[i]? = some 58) :
    splitC (l.drop fr) = ((l.drop fr).take (i - fr) :: (splitC (l.drop (i + 1))).1, (splitC (l.drop (i + 1))).2) := by
  have hlt := (List.getElem?_eq_some_iff.1 hc).1
  have h1 : l.drop fr = (l.drop fr).take (i - fr) ++ 58 :: l.drop (i + 1) := by
    have h2 : (l.drop fr).drop (i - fr) = 58 :: l.drop (i + 1) := by
      rw [List.drop_drop, show fr + (i - fr) = i by have := h.le; omega, List.drop_eq_getElem_cons hlt, (List.getElem?_eq_some_iff.1 hc).2]
    rw [← h2, List.take_append_drop]
  have h3 := splitC_append ((l.drop fr).take (i - fr)) (l.drop (i + 1))
  rw [← h1, splitC_nocolon (seg_no h.no)] at h3
  exact h3
theorem KwSt.bad {w wr : World} {l : List UInt8} {v : Value} {fr i : Nat} {done : List (List UInt8)} (h : KwSt w l v fr i done wr) (hc : l[i]? = some 58) (hp : nmLower ((l.drop fr).take (i - fr)) = false) : kwL l = [] := by
  have : nmKw l = false := by
    rw [Bool.eq_false_iff]
    intro hk
    have h1 := (kw_parts hk).2.2.2 ((l.drop fr).take (i - fr)) (by rw [h.eq, h.split hc]; simp)
    rw [hp] at h1
    cases h1
  unfold kwL
  rw [this]
  rfl
theorem KwSt.next {w wr wr' : World} {l : List UInt8} {v v' : Value} {fr i : Nat} {done : List (List UInt8)} (h : KwSt w l v fr i done wr) (hc : l[i]? = some 58) (hp : nmLower ((l.drop fr).take (i - fr)) = true)
    (hown : wr'.ownsRow w.heap.size 9 1 v' (done.length + 1) ((done.map fun p => sv (p ++ [58])) ++ [sv ((l.drop fr).take (i - fr) ++ [58])])) (hm : Mod Nil w wr') :
    KwSt w l v' (i + 1) (i + 1) (done ++ [(l.drop fr).take (i - fr)]) wr' := by
  have hlt := (List.getElem?_eq_some_iff.1 hc).1
  refine ⟨Nat.le_refl _, hlt, ?_, ?_, fun j c h1 h2 => by omega, ?_, hm, ?_⟩
  · rw [h.eq, h.split hc]
    simp
  · intro p hp'
    rcases List.mem_append.1 hp' with h1 | h1
    · exact h.low p h1
    · simp at h1
      rw [h1]
      exact hp
  · simpa using hown
  · have := h.le
    have := h.len
    simp
    omega
theorem KwSt.step {w wr : World} {l : List UInt8} {v : Value} {fr i : Nat} {done : List (List UInt8)} (h : KwSt w l v fr i done wr) {c : UInt8} (hc : l[i]? = some c) (hne : c ≠ 58) : KwSt w l v fr (i + 1) done wr :=
  ⟨by have := h.le; omega, (List.getElem?_eq_some_iff.1 hc).1, h.eq, h.low, fun j d h1 h2 hd => by
    rcases Nat.lt_or_ge j i with h3 | h3
    · exact h.no j d h1 h3 hd
    · have : j = i := by omega
      subst this
      rw [hc] at hd
      cases hd
      exact hne, h.own, h.mod, h.len⟩
theorem KwSt.fin {w wr : World} {l : List UInt8} {v : Value} {fr : Nat} {done : List (List UInt8)} (h : KwSt w l v fr l.length done wr) : splitC l = (done, l.drop fr) := by
  have h1 : splitC (l.drop fr) = ([], l.drop fr) := by
    refine splitC_nocolon fun c hc => ?_
    have := seg_no h.no c
    rw [List.take_of_length_le (by rw [List.length_drop]; exact Nat.le_refl _)] at this
    exact this hc
  rw [h.eq, h1]
  simp
theorem KwSt.kw {w wr : World} {l : List UInt8} {v : Value} {fr : Nat} {done : List (List UInt8)} (h : KwSt w l v fr l.length done wr) : kwL l = if fr = l.length ∧ done.length ≤ 10 then done.map (· ++ [58]) else [] := by
  have hf := h.fin
  have hil := h.le
  unfold kwL
  have hk : nmKw l = (decide (fr = l.length) && decide (1 ≤ done.length) && decide (done.length ≤ 10)) := by
    unfold nmKw
    rw [hf]
    have h1 : done.all nmLower = true := List.all_eq_true.2 h.low
    have h2 : (l.drop fr).isEmpty = decide (fr = l.length) := by
      rw [Bool.eq_iff_iff, List.isEmpty_iff, List.drop_eq_nil_iff]
      simp
      omega
    simp only
    rw [h1, h2, Bool.and_true]
  rw [hk, hf]
  by_cases h1 : fr = l.length
  · by_cases h2 : done.length ≤ 10
    · by_cases h3 : 1 ≤ done.length
      · simp [h1, h2, h3]
      · have : done = [] := List.eq_nil_of_length_eq_zero (by omega)
        subst this
        simp
    · simp [h1, h2]
  · simp [h1]
end Go.Proofs.YtefloadjolpgbaaGreatDoor

namespace Go.Proofs.YtefloadjolpgbaaGreatDoor
open Go.RowKit

theorem nmLower_eq {c : UInt8} {r : List UInt8} : nmLower (c :: r) = (nmIs (c :: r) && smallB c) := rfl

set_option maxHeartbeats 3200000 in
set_option maxRecDepth 100000 in
theorem r6Keywords_any (l : List UInt8) (hl : l.length ≤ 2000000) (w : World) :
    Calls Tryz.prog 21 #[.string (str l)] w fun e w' => ∃ v, e = .returned v ∧ w'.ownsRow w.heap.size 9 1 v (kwL l).length ((kwL l).map sv) ∧ Mod Nil w w' := by
  have hsz := str_size l
  obtain ⟨i0, hi, hz0, hz1, hz2⟩ := info_parts (show (Tryz.prog.info? 9).map (fun i => (i.zero, i.size, i.bytes)) = some (some (.string ⟨#[]⟩), 1, 16) by kernel_rfl)
  have HST0 := Lib.hid (show KwSt w l (.slice none 0 0) 0 0 [] w from ⟨Nat.le_refl _, Nat.zero_le _, by simp, fun p hp => (by cases hp), fun j c _ h => absurd h (by omega), World.ownsRow_nil _ _ _ _, Mod.refl _ _, Nat.le_refl _⟩)
  have HNIL := Lib.hid (show ∀ w', kwL l = [] → Mod Nil w w' → w'.ownsRow w.heap.size 9 1 (.slice none 0 0) (kwL l).length ((kwL l).map sv) ∧ Mod Nil w w' from fun w' h hm => by
    rw [h]
    exact ⟨World.ownsRow_nil _ _ _ _, hm⟩)
  go_enter Tryz.func21, Tryz.ntmps21
  go_wp2_with fail
  go_loopw [3, 4, 5] (fun v fv iv wr => ∃ (fr i : Nat) (done : List (List UInt8)), fv = .int .i64 fr ∧ iv = .int .i64 i ∧ KwSt w l v fr i done wr) (fun _ _ iv _ => l.length - (intOf iv).toNat)
  case atStart => exact ⟨0, 0, [], rfl, rfl, HST0.out⟩
  case round =>
    obtain ⟨fr, i, done, rfl, rfl, hst⟩ := hrel
    have hfi := hst.le
    have hil := hst.il
    have hdl := hst.len
    have hown := hst.own
    have hmw := hst.mod.size
    have HST := Lib.hid hst
    clear hst
    by_cases hlt : i < l.length
    · obtain ⟨c, hc⟩ : ∃ c, l[i]? = some c := ⟨_, List.getElem?_eq_getElem hlt⟩
      have hg := str_getE hc (by omega)
      have HC := Lib.hid hc
      clear hc
      by_cases h58 : c = 58
      · subst h58
        have he1 : (str l).extract fr i = str ((l.drop fr).take (i - fr)) := str_extract l fr i
        have he2 : (str l).extract fr (i + 1) = str ((l.drop fr).take (i - fr) ++ [58]) := by
          rw [str_extract, show i + 1 - fr = (i - fr) + 1 by omega, take_colon]
          rw [List.getElem?_drop, show fr + (i - fr) = i by omega]
          exact HC.out
        have HBAD := Lib.hid (HST.out.bad HC.out)
        have HNEXT := Lib.hid (fun v' wr' hp hown hm => HST.out.next (v' := v') (wr' := wr') HC.out hp hown hm)
        have hpl : ((l.drop fr).take (i - fr)).length ≤ 2000000 := by rw [List.length_take, List.length_drop]; omega
        obtain ⟨p, hp⟩ : ∃ p, p = (l.drop fr).take (i - fr) := ⟨_, rfl⟩
        rw [← hp] at he1 he2 HBAD HNEXT hpl
        clear hp
        go_wp2_with fail
        refine (r6Is_any p (by omega) _).mono ?_
        rintro e w2 ⟨rfl, rfl⟩
        rcases his : nmIs p with _ | _
        · have HX := Lib.hid (HNIL.out _ (HBAD.out (by unfold nmLower; rw [his]; rfl)) HST.out.mod)
          go_wp2_with fail
          go_ret
          exact ⟨_, rfl, HX.out⟩
        · obtain ⟨c0, r0, hp0⟩ : ∃ c0 r0, p = c0 :: r0 := by
            cases p with
            | nil => simp [nmIs] at his
            | cons c r => exact ⟨c, r, rfl⟩
          have hszp := str_size p
          have hpp : 0 < p.length := by rw [hp0]; simp
          have hg0 := str_getE (l := p) (k := 0) (c := c0) (by rw [hp0]; rfl) (by omega)
          have HLO := Lib.hid (show nmLower p = smallB c0 by rw [hp0, nmLower_eq, ← hp0, his]; rfl)
          clear his hp0
          go_wp2_with fail
          refine (r6Small_any c0 _).mono ?_
          rintro e w3 ⟨rfl, rfl⟩
          rcases hsm : smallB c0 with _ | _
          · have HX := Lib.hid (HNIL.out _ (HBAD.out (by rw [HLO.out, hsm])) HST.out.mod)
            clear hsm
            go_wp2_with fail
            go_ret
            exact ⟨_, rfl, HX.out⟩
          · have HLOW := Lib.hid (show nmLower p = true by rw [HLO.out, hsm])
            clear hsm
            go_wp2_with (at_builtin; refine wpList_append_own _ rfl _ _ 46 rfl w.heap.size 9 i0 (.string ⟨#[]⟩) 1 16 Tryz.underlying46 hi hz0 hz1 hz2 rfl (by decide) _ _ _ rfl (hown.alloc _) ⟨wr.heap.size, 0, none⟩ 1 1 [sv (p ++ [58])] rfl rfl ?c1 ?c2 ?c3 ?c4 ?c5 ?_)
            case c1 =>
              intro j u hj
              match j, hj with
              | 0, hj => simp at hj; subst hj; simp [Addr.add, sv]
            case c2 => intro u hu; simp at hu; subst hu; rfl
            case c3 => unfold maxLen; omega
            case c4 => omega
            case c5 => simp; omega
            intro v' w4 hown' hgrow _
            have hA := HST.out.mod.alloc (.cells #[sv (p ++ [58])] 9)
            have HM4 := Lib.hid (hA.trans' (H := Nil) (Mod.of_grown hgrow) (fun _ _ h => h) (fun k hk h => absurd ((hown.lt k h).1) (by omega)))
            have HX := Lib.hid (HNEXT.out v' w4 HLOW.out hown' HM4.out)
            clear hA hown hown' hgrow
            go_wp2_with fail
            refine ⟨⟨i + 1, i + 1, _, by simp, by simp, HX.out⟩, ?_⟩
            simp [intOf]
            omega
      · have hne2 : ((c.toNat : Int) == 58) = false := ne_of_u8 h58
        have hne3 : ((c.toNat : Int) != 58) = true := by rw [bne, hne2]; rfl
        have HX := Lib.hid (HST.out.step HC.out h58)
        clear h58
        go_wp2_with fail
        refine ⟨⟨fr, i + 1, done, rfl, by simp, HX.out⟩, ?_⟩
        simp [intOf]
        omega
    · obtain rfl : i = l.length := by omega
      have HKW := Lib.hid HST.out.kw
      by_cases hend : fr = l.length
      · have hne2 : ((fr : Int) != (l.length : Int)) = false := by simp [bne, hend]
        by_cases h10 : done.length ≤ 10
        · have HX := Lib.hid (show kwL l = done.map (· ++ [58]) by rw [HKW.out, if_pos ⟨hend, h10⟩])
          obtain ⟨A, c, rfl, _, _⟩ := own_slice hown
          have hgt : decide (10 < (done.length : Int)) = false := by simp; omega
          clear hend
          go_wp2_with fail
          go_ret
          refine ⟨_, rfl, ?_, HST.out.mod⟩
          rw [HX.out, List.length_map, List.map_map]
          exact hown
        · have HX := Lib.hid (HNIL.out _ (by rw [HKW.out, if_neg (fun h => h10 h.2)]) HST.out.mod)
          obtain ⟨A, c, rfl, _, _⟩ := own_slice hown
          have hgt : decide (10 < (done.length : Int)) = true := by simp; omega
          clear hend
          go_wp2_with fail
          go_ret
          exact ⟨_, rfl, HX.out⟩
      · have HX := Lib.hid (HNIL.out _ (by rw [HKW.out, if_neg (fun h => hend h.1)]) HST.out.mod)
        have hne1 : ((fr : Int) == (l.length : Int)) = false := by simp; omega
        have hne2 : ((fr : Int) != (l.length : Int)) = true := by rw [bne, hne1]; rfl
        clear hend
        go_wp2_with fail
        go_ret
        exact ⟨_, rfl, HX.out⟩
end Go.Proofs.YtefloadjolpgbaaGreatDoor

namespace Go.Proofs.YtefloadjolpgbaaGreatDoor
open Go.RowKit

def binS : List (List UInt8) := binL.map fun c => [c]
theorem binS_contains (c : UInt8) : binS.contains [c] = binB c := by
  unfold binB
  rw [Bool.eq_iff_iff, List.contains_iff_mem, List.contains_iff_mem]
  unfold binS
  simp
theorem binS_rd (w : World) (t : TypeId) : Rd All (w.alloc (.cells (binS.map sv).toArray t)) (some ⟨w.heap.size, 0, none⟩) (binS.map sv) := fun _ =>
  ⟨_, rfl, trivial, by simp, fun j u hu => by
    have : (⟨w.heap.size, 0, none⟩ : Addr).add j = ⟨w.heap.size, j, none⟩ := by unfold Addr.add; split <;> simp_all
    rw [this, (Blk.new w t (binS.map sv).toArray).cell j]
    simpa using hu⟩
theorem all_take_succ {p : UInt8 → Bool} {l : List UInt8} {k : Nat} {c : UInt8} (hc : l[k]? = some c) : (l.take (k + 1)).all p = ((l.take k).all p && p c) := by
  rw [List.take_add_one, hc]
  simp

set_option maxHeartbeats 3200000 in
set_option maxRecDepth 100000 in
theorem r6Kind_any (l : List UInt8) (hl : l.length ≤ 2000000) (w : World) : Calls Tryz.prog 14 #[.string (str l)] w fun e w' => e = .returned (.int .i64 (nmKind l)) ∧ Mod Nil w w' := by
  have hsz := str_size l
  have HD := Lib.hid (show nmKind l = if nmLower l then 1 else if nmBin l then 2 else if nmKw l then 3 else 0 from rfl)
  have HLN := Lib.hid (show nmIs l = false → nmLower l = false from fun h => by unfold nmLower; rw [h]; rfl)
  have HBN := Lib.hid (show nmBin l = ((decide (l.length = 1) || decide (l.length = 2)) && l.all binB) from rfl)
  have HKW := Lib.hid (fun w => r6Keywords_any l hl w)
  have HLEN := Lib.hid (show (0 < (kwL l).length ↔ nmKw l = true) from by
    unfold kwL
    rcases h : nmKw l with _ | _
    · simp
    · have := (kw_parts h).2.1
      simp
      omega)
  have HIS := Lib.hid (fun w => r6Is_any l (by omega) w)
  have htail : ∀ (w2 : World), nmLower l = false → nmBin l = false → Mod Nil w w2 → True := fun _ _ _ _ => trivial
  clear htail
  go_enter Tryz.func14, Tryz.ntmps14
  go_wp2_with fail
  refine (HIS.out _).mono ?_
  rintro e w2 ⟨rfl, rfl⟩
  rcases his : nmIs l with _ | _
  -- ARMS
  -- ARMS
  -- ARMS
  -- ARMS
  · have HLOW := Lib.hid (HLN.out his)
    clear his
    by_cases h12 : l.length = 1 ∨ l.length = 2
    · have hi : ((l.length : Int) == 1) = true ∨ (((l.length : Int) == 1) = false ∧ ((l.length : Int) == 2) = true) := by simp; omega
      have hle2 : l.length ≤ 2 := by omega
      have HBB := Lib.hid (show nmBin l = l.all binB by rw [HBN.out]; rcases h12 with h | h <;> simp [h])
      clear h12
      rcases hi with hi1 | ⟨hi1, hi2⟩
      all_goals
        go_wp2_with fail
        go_loopw [3, 4] (fun ov iv wr => ∃ k : Nat, iv = .int .i64 k ∧ k ≤ l.length ∧ ov = .bool ((l.take k).all binB) ∧ Mod Nil w wr) (fun _ iv _ => l.length - (intOf iv).toNat)
        case atStart => exact ⟨0, rfl, Nat.zero_le _, by simp, Mod.refl _ _⟩
        case round =>
          obtain ⟨k, rfl, hk, rfl, hm⟩ := hrel
          have HM := Lib.hid hm
          clear hm
          by_cases hlt : k < l.length
          · obtain ⟨c, hc⟩ : ∃ c, l[k]? = some c := ⟨_, List.getElem?_eq_getElem hlt⟩
            have HNX := Lib.hid (all_take_succ (p := binB) hc)
            have he : (str l).extract k (k + 1) = str [c] := by
              rw [str_extract, show k + 1 - k = 1 by omega, List.drop_eq_getElem_cons hlt, (List.getElem?_eq_some_iff.1 hc).2]
              simp
            clear hc
            rcases hok : (l.take k).all binB with _ | _
            · rw [hok] at HNX
              clear hok
              go_wp2_with fail
              refine ⟨⟨k + 1, by simp, hlt, by rw [HNX.out]; rfl, HM.out⟩, ?_⟩
              simp [intOf]
              omega
            · rw [hok] at HNX
              clear hok
              have hin := r6In_any (some ⟨wr.heap.size, 0, none⟩) 12 12 binS [c] (wr.alloc (.cells (binS.map sv).toArray 9)) rfl (by omega) (binS_rd wr _)
              rw [binS_contains] at hin
              have HIN := Lib.hid hin
              clear hin
              go_wp2_with fail
              refine HIN.out.mono ?_
              rintro e w3 ⟨rfl, rfl⟩
              go_wp2_with fail
              refine ⟨⟨k + 1, by simp, hlt, by rw [HNX.out]; rfl, HM.out.alloc _⟩, ?_⟩
              simp [intOf]
              omega
          · obtain rfl : k = l.length := by omega
            rw [List.take_length]
            rcases hall : l.all binB with _ | _
            · have HBF := Lib.hid (show nmBin l = false by rw [HBB.out, hall])
              clear hall
              go_wp2_with fail
              refine (HKW.out _).mono ?_
              rintro e w4 ⟨v, rfl, hown, hm⟩
              obtain ⟨A, c, rfl, _, _⟩ := own_slice hown
              have HM4 := Lib.hid (HM.out.trans hm)
              clear hown hm
              rcases hkw : nmKw l with _ | _
              · have hkl : (kwL l).length = 0 := by
                  have := HLEN.out
                  rw [hkw] at this
                  simp at this
                  simp [this]
                rw [hkl]
                go_wp2_with fail
                go_ret
                exact ⟨ret_int (by rw [HD.out, HLOW.out, HBF.out, hkw]; rfl), HM4.out⟩
              · have hkl : 0 < (kwL l).length := HLEN.out.2 hkw
                generalize (kwL l).length = kn at hkl ⊢
                go_wp2_with fail
                go_ret
                exact ⟨ret_int (by rw [HD.out, HLOW.out, HBF.out, hkw]; rfl), HM4.out⟩
            · have HBT := Lib.hid (show nmBin l = true by rw [HBB.out, hall])
              clear hall
              go_wp2_with fail
              go_ret
              exact ⟨ret_int (by rw [HD.out, HLOW.out, HBT.out]; rfl), HM.out⟩
    · have hi1 : ((l.length : Int) == 1) = false := by simp; omega
      have hi2 : ((l.length : Int) == 2) = false := by simp; omega
      have HBF := Lib.hid (show nmBin l = false by rw [HBN.out]; have h1 : l.length ≠ 1 := fun h => h12 (.inl h); have h2 : l.length ≠ 2 := fun h => h12 (.inr h); simp [h1, h2])
      have HM := Lib.hid (Mod.refl Nil w)
      clear h12
      go_wp2_with fail
      refine (HKW.out _).mono ?_
      rintro e w4 ⟨v, rfl, hown, hm⟩
      obtain ⟨A, c, rfl, _, _⟩ := own_slice hown
      have HM4 := Lib.hid (HM.out.trans hm)
      clear hown hm
      rcases hkw : nmKw l with _ | _
      · have hkl : (kwL l).length = 0 := by
          have := HLEN.out
          rw [hkw] at this
          simp at this
          simp [this]
        rw [hkl]
        go_wp2_with fail
        go_ret
        exact ⟨ret_int (by rw [HD.out, HLOW.out, HBF.out, hkw]; rfl), HM4.out⟩
      · have hkl : 0 < (kwL l).length := HLEN.out.2 hkw
        generalize (kwL l).length = kn at hkl ⊢
        go_wp2_with fail
        go_ret
        exact ⟨ret_int (by rw [HD.out, HLOW.out, HBF.out, hkw]; rfl), HM4.out⟩
  · obtain ⟨c0, r0, hp0⟩ : ∃ c0 r0, l = c0 :: r0 := by
      cases l with
      | nil => simp [nmIs] at his
      | cons c r => exact ⟨c, r, rfl⟩
    have hpp : 0 < l.length := by rw [hp0]; simp
    have hg0 := str_getE (l := l) (k := 0) (c := c0) (by rw [hp0]; rfl) (by omega)
    have HLO := Lib.hid (show nmLower l = smallB c0 by rw [hp0, nmLower_eq, ← hp0, his]; rfl)
    clear his hp0
    go_wp2_with fail
    refine (r6Small_any c0 _).mono ?_
    rintro e w3 ⟨rfl, rfl⟩
    rcases hsm : smallB c0 with _ | _
    · have HLOW := Lib.hid (show nmLower l = false by rw [HLO.out, hsm])
      clear hsm
      by_cases h12 : l.length = 1 ∨ l.length = 2
      · have hi : ((l.length : Int) == 1) = true ∨ (((l.length : Int) == 1) = false ∧ ((l.length : Int) == 2) = true) := by simp; omega
        have hle2 : l.length ≤ 2 := by omega
        have HBB := Lib.hid (show nmBin l = l.all binB by rw [HBN.out]; rcases h12 with h | h <;> simp [h])
        clear h12
        rcases hi with hi1 | ⟨hi1, hi2⟩
        all_goals
          go_wp2_with fail
          go_loopw [3, 4] (fun ov iv wr => ∃ k : Nat, iv = .int .i64 k ∧ k ≤ l.length ∧ ov = .bool ((l.take k).all binB) ∧ Mod Nil w wr) (fun _ iv _ => l.length - (intOf iv).toNat)
          case atStart => exact ⟨0, rfl, Nat.zero_le _, by simp, Mod.refl _ _⟩
          case round =>
            obtain ⟨k, rfl, hk, rfl, hm⟩ := hrel
            have HM := Lib.hid hm
            clear hm
            by_cases hlt : k < l.length
            · obtain ⟨c, hc⟩ : ∃ c, l[k]? = some c := ⟨_, List.getElem?_eq_getElem hlt⟩
              have HNX := Lib.hid (all_take_succ (p := binB) hc)
              have he : (str l).extract k (k + 1) = str [c] := by
                rw [str_extract, show k + 1 - k = 1 by omega, List.drop_eq_getElem_cons hlt, (List.getElem?_eq_some_iff.1 hc).2]
                simp
              clear hc
              rcases hok : (l.take k).all binB with _ | _
              · rw [hok] at HNX
                clear hok
                go_wp2_with fail
                refine ⟨⟨k + 1, by simp, hlt, by rw [HNX.out]; rfl, HM.out⟩, ?_⟩
                simp [intOf]
                omega
              · rw [hok] at HNX
                clear hok
                have hin := r6In_any (some ⟨wr.heap.size, 0, none⟩) 12 12 binS [c] (wr.alloc (.cells (binS.map sv).toArray 9)) rfl (by omega) (binS_rd wr _)
                rw [binS_contains] at hin
                have HIN := Lib.hid hin
                clear hin
                go_wp2_with fail
                refine HIN.out.mono ?_
                rintro e w3 ⟨rfl, rfl⟩
                go_wp2_with fail
                refine ⟨⟨k + 1, by simp, hlt, by rw [HNX.out]; rfl, HM.out.alloc _⟩, ?_⟩
                simp [intOf]
                omega
            · obtain rfl : k = l.length := by omega
              rw [List.take_length]
              rcases hall : l.all binB with _ | _
              · have HBF := Lib.hid (show nmBin l = false by rw [HBB.out, hall])
                clear hall
                go_wp2_with fail
                refine (HKW.out _).mono ?_
                rintro e w4 ⟨v, rfl, hown, hm⟩
                obtain ⟨A, c, rfl, _, _⟩ := own_slice hown
                have HM4 := Lib.hid (HM.out.trans hm)
                clear hown hm
                rcases hkw : nmKw l with _ | _
                · have hkl : (kwL l).length = 0 := by
                    have := HLEN.out
                    rw [hkw] at this
                    simp at this
                    simp [this]
                  rw [hkl]
                  go_wp2_with fail
                  go_ret
                  exact ⟨ret_int (by rw [HD.out, HLOW.out, HBF.out, hkw]; rfl), HM4.out⟩
                · have hkl : 0 < (kwL l).length := HLEN.out.2 hkw
                  generalize (kwL l).length = kn at hkl ⊢
                  go_wp2_with fail
                  go_ret
                  exact ⟨ret_int (by rw [HD.out, HLOW.out, HBF.out, hkw]; rfl), HM4.out⟩
              · have HBT := Lib.hid (show nmBin l = true by rw [HBB.out, hall])
                clear hall
                go_wp2_with fail
                go_ret
                exact ⟨ret_int (by rw [HD.out, HLOW.out, HBT.out]; rfl), HM.out⟩
      · have hi1 : ((l.length : Int) == 1) = false := by simp; omega
        have hi2 : ((l.length : Int) == 2) = false := by simp; omega
        have HBF := Lib.hid (show nmBin l = false by rw [HBN.out]; have h1 : l.length ≠ 1 := fun h => h12 (.inl h); have h2 : l.length ≠ 2 := fun h => h12 (.inr h); simp [h1, h2])
        have HM := Lib.hid (Mod.refl Nil w)
        clear h12
        go_wp2_with fail
        refine (HKW.out _).mono ?_
        rintro e w4 ⟨v, rfl, hown, hm⟩
        obtain ⟨A, c, rfl, _, _⟩ := own_slice hown
        have HM4 := Lib.hid (HM.out.trans hm)
        clear hown hm
        rcases hkw : nmKw l with _ | _
        · have hkl : (kwL l).length = 0 := by
            have := HLEN.out
            rw [hkw] at this
            simp at this
            simp [this]
          rw [hkl]
          go_wp2_with fail
          go_ret
          exact ⟨ret_int (by rw [HD.out, HLOW.out, HBF.out, hkw]; rfl), HM4.out⟩
        · have hkl : 0 < (kwL l).length := HLEN.out.2 hkw
          generalize (kwL l).length = kn at hkl ⊢
          go_wp2_with fail
          go_ret
          exact ⟨ret_int (by rw [HD.out, HLOW.out, HBF.out, hkw]; rfl), HM4.out⟩
    · have HLOW := Lib.hid (show nmLower l = true by rw [HLO.out, hsm])
      clear hsm
      go_wp2_with fail
      go_ret
      exact ⟨ret_int (by rw [HD.out, HLOW.out]; rfl), Mod.refl _ _⟩
end Go.Proofs.YtefloadjolpgbaaGreatDoor

namespace Go.Proofs.YtefloadjolpgbaaGreatDoor
open Go.RowKit

theorem wholeB_at {l : List UInt8} {a b : Nat} {c d e : UInt8} (hab : a < b) (hc : l[a]? = some c) (hd : l[b - 1]? = some d) (he : l[b]? = some e) : wholeB (l.drop a) (b - a) = (!letB c || d == 58 || !wrdB e) := by
  have hlt := (List.getElem?_eq_some_iff.1 hc).1
  have h1 : (l.drop a)[b - a - 1]? = some d := by rw [List.getElem?_drop, show a + (b - a - 1) = b - 1 by omega]; exact hd
  have h2 : (l.drop a)[b - a]? = some e := by rw [List.getElem?_drop, show a + (b - a) = b by omega]; exact he
  have h3 : l.drop a = c :: l.drop (a + 1) := by rw [List.drop_eq_getElem_cons hlt, (List.getElem?_eq_some_iff.1 hc).2]
  rw [h3] at h1 h2 ⊢
  unfold wholeB
  simp only [h1, h2]
  simp

set_option maxHeartbeats 1600000 in
set_option maxRecDepth 100000 in
theorem rWhole_any (l : List UInt8) (a b : Nat) (hl : l.length ≤ 100000) (hab : a < b) (hb : b < l.length) (w : World) :
    Calls Tryz.prog 15 #[.string (str l), .int .i64 a, .int .i64 b] w fun e w' => e = .returned (.bool (wholeB (l.drop a) (b - a))) ∧ w = w' := by
  have hsz := str_size l
  obtain ⟨c, hc⟩ : ∃ c, l[a]? = some c := ⟨_, List.getElem?_eq_getElem (by omega)⟩
  obtain ⟨d, hd⟩ : ∃ c, l[b - 1]? = some c := ⟨_, List.getElem?_eq_getElem (by omega)⟩
  obtain ⟨x, hx⟩ : ∃ c, l[b]? = some c := ⟨_, List.getElem?_eq_getElem hb⟩
  have HW := Lib.hid (wholeB_at hab hc hd hx)
  have hgc := str_getE hc (by omega)
  have hgd := str_getE hd (by omega)
  have hgx := str_getE hx (by omega)
  have hu := u8_lt d
  have HX : wrdB x = (letB x || digB x) := rfl
  have HX := Lib.hid HX
  clear hc hd hx
  go_enter Tryz.func15, Tryz.ntmps15
  go_wp2_with fail
  refine (rLetter_any c _).mono ?_
  rintro e w2 ⟨rfl, rfl⟩
  rcases h1 : letB c with _ | _
  · go_wp2_with fail
    go_ret
    exact ⟨ret_bool (by rw [HW.out, h1]; rfl), rfl⟩
  · by_cases h58 : d = 58
    · subst h58
      go_wp2_with fail
      go_ret
      exact ⟨ret_bool (by rw [HW.out, h1]; rfl), rfl⟩
    · have hne2 : ((d.toNat : Int) == 58) = false := ne_of_u8 h58
      have hq : (d == 58) = false := by simp [h58]
      have HQ := Lib.hid hq
      clear h58 hq
      go_wp2_with fail
      refine (rLetter_any x _).mono ?_
      rintro e w3 ⟨rfl, rfl⟩
      rcases h2 : letB x with _ | _
      · go_wp2_with fail
        refine (rDigit_any x _).mono ?_
        rintro e w4 ⟨rfl, rfl⟩
        go_wp2_with fail
        go_ret
        exact ⟨ret_bool (by rw [HW.out, h1, HQ.out, HX.out, h2]; simp), rfl⟩
      · go_wp2_with fail
        go_ret
        exact ⟨ret_bool (by rw [HW.out, h1, HQ.out, HX.out, h2]; simp), rfl⟩
end Go.Proofs.YtefloadjolpgbaaGreatDoor

namespace Go.Proofs.YtefloadjolpgbaaGreatDoor
open Go.RowKit

noncomputable def rtBody : Code := (Tryz.f8.body).getD .skip

def tokArr (t : Tok) (a : Nat) : Array Value := #[.int .i64 t.kind, .string (str t.text), .int .i64 t.n, .int .i64 a]
/-- The token's block and the result's. -/
structure TW (w0 w : World) (g4 g7 : Nat) (t : Tok) (a : Nat) : Prop where
  b4 : Blk w g4 30 tok0
  b7 : Blk w g7 30 (tokArr t a)
  ne : g4 ≠ g7
  n4 : w0.heap.size ≤ g4
  n7 : w0.heap.size ≤ g7
  mod : Mod Nil w0 w
theorem TW.keep {w0 w w' : World} {g4 g7 a : Nat} {t : Tok} (h : TW w0 w g4 g7 t a) (hm : Mod Nil w w') : TW w0 w' g4 g7 t a :=
  ⟨h.b4.keep hm id, h.b7.keep hm id, h.ne, h.n4, h.n7, h.mod.trans hm⟩
theorem TW.set0 {w0 w : World} {g4 g7 a : Nat} {t : Tok} (h : TW w0 w g4 g7 t a) (k : Nat) : TW w0 (w.setCell ⟨g7, 0, none⟩ (.int .i64 k)) g4 g7 { t with kind := k } a :=
  ⟨h.b4.far (p := ⟨g7, 0, none⟩) h.ne _, by have := h.b7.set_ 0 (.int .i64 k); simpa [tokArr] using this, h.ne, h.n4, h.n7, h.mod.set (.inr h.n7) _⟩
theorem TW.set1 {w0 w : World} {g4 g7 a : Nat} {t : Tok} (h : TW w0 w g4 g7 t a) (s : List UInt8) : TW w0 (w.setCell ⟨g7, 1, none⟩ (.string (str s))) g4 g7 { t with text := s } a :=
  ⟨h.b4.far (p := ⟨g7, 1, none⟩) h.ne _, by have := h.b7.set_ 1 (.string (str s)); simpa [tokArr] using this, h.ne, h.n4, h.n7, h.mod.set (.inr h.n7) _⟩
theorem TW.set2 {w0 w : World} {g4 g7 a : Nat} {t : Tok} (h : TW w0 w g4 g7 t a) (n : Nat) : TW w0 (w.setCell ⟨g7, 2, none⟩ (.int .i64 n)) g4 g7 { t with n := n } a :=
  ⟨h.b4.far (p := ⟨g7, 2, none⟩) h.ne _, by have := h.b7.set_ 2 (.int .i64 n); simpa [tokArr] using this, h.ne, h.n4, h.n7, h.mod.set (.inr h.n7) _⟩
theorem TW.facts {w0 w : World} {g4 g7 a : Nat} {t : Tok} (h : TW w0 w g4 g7 t a) :
    w.cell? ⟨g7, 0, none⟩ = some (.int .i64 t.kind) ∧ w.cell? ⟨g7, 1, none⟩ = some (.string (str t.text)) ∧ w.cell? ⟨g7, 2, none⟩ = some (.int .i64 t.n) ∧ w.cell? ⟨g7, 3, none⟩ = some (.int .i64 a) ∧
      w.frozen? ⟨g7, 0, none⟩ = false ∧ w.frozen? ⟨g7, 1, none⟩ = false ∧ w.frozen? ⟨g7, 2, none⟩ = false :=
  ⟨h.b7.cell 0, h.b7.cell 1, h.b7.cell 2, h.b7.cell 3, h.b7.frozen 0, h.b7.frozen 1, h.b7.frozen 2⟩
theorem TW.facts4 {w0 w : World} {g4 g7 a : Nat} {t : Tok} (h : TW w0 w g4 g7 t a) :
    w.cell? ⟨g4, 0, none⟩ = some (.int .i64 0) ∧ w.cell? ⟨g4, 1, none⟩ = some (.string ⟨#[]⟩) ∧ w.cell? ⟨g4, 2, none⟩ = some (.int .i64 0) ∧ w.cell? ⟨g4, 3, none⟩ = some (.int .i64 0) ∧
      w.frozen? ⟨g4, 0, none⟩ = false ∧ w.frozen? ⟨g4, 1, none⟩ = false ∧ w.frozen? ⟨g4, 2, none⟩ = false ∧ w.frozen? ⟨g4, 3, none⟩ = false := tok_facts h.b4

/-- Left by a return. -/
structure RetP (Q : Exit → Act → World → Prop) (e : Exit) (a : Act) (w : World) : Prop where
  is : e = .ret
  out : Q .ret a w
theorem wp_ret_then {P : Program} {c : Code} {Q : Exit → Act → World → Prop} {X : Act → World → Prop} {a : Act} {w : World} (h : c.wp P (RetP Q) a w) : c.wp P (Exit.then X Q) a w :=
  Code.wp_mono (fun _ _ _ hq => by obtain ⟨rfl, h⟩ := hq; exact h) h
theorem wp_ret_out {P : Program} {c : Code} {Q : Exit → Act → World → Prop} {a : Act} {w : World} (h : c.wp P (RetP Q) a w) : c.wp P Q a w :=
  Code.wp_mono (fun _ _ _ hq => by obtain ⟨rfl, h⟩ := hq; exact h) h

/-- What Token hands back. -/
def RTok (l : List UInt8) (a : Nat) (w : World) (e : Ending) (w' : World) : Prop :=
  ∃ (t : Tok) (z : Int), e = .returned (.tuple #[tokV t a, .int .i64 z]) ∧ (∀ t' k, tokL (l.drop a) = some (t', k) → t = t' ∧ z = (a + k : Nat)) ∧ (tokL (l.drop a) = none → z = -1) ∧ Mod Nil w w'

theorem rtok_end {L : List (Tmp × Value)} {l : List UInt8} {a : Nat} {w0 w : World} {ac : Act} {g4 g7 : Nat} {t : Tok} {z : Int} (HF : Sl 260 L ac) (h4 : look L 4 = some (.pointer (some ⟨g4, 0, none⟩))) (h5 : look L 5 = some (.int .i64 z))
    (h : TW w0 w g4 g7 t a) (hs : ∀ t' k, tokL (l.drop a) = some (t', k) → t = t' ∧ z = (a + k : Nat)) (hn : tokL (l.drop a) = none → z = -1) :
    bodyPost Tryz.prog Tryz.f8 (fun e w' => RTok l a w0 e w') .ret ac (tokSet w g4 t a) := by
  have e4 : ac.tmps.getD 4 undef = .pointer (some ⟨g4, 0, none⟩) := by simpa using HF.see 4 h4
  have e5 : ac.tmps.getD 5 undef = .int .i64 z := by simpa using HF.see 5 h5
  refine bodyPost_ret (v := .tuple #[tokV t a, .int .i64 z]) ?_ HF.nd ⟨t, z, rfl, hs, hn, tokSet_mod h.mod (.inr h.n4) t a⟩
  rw [results_cell_tmp rfl, e4]
  have := tok_load (tokSet_blk h.b4 rfl t a) rfl
  simp [asAddr, Result.andThen, this, tokV]
  simpa using e5
end Go.Proofs.YtefloadjolpgbaaGreatDoor

namespace Go.Proofs.YtefloadjolpgbaaGreatDoor
open Go.RowKit

set_option maxHeartbeats 1600000 in
set_option maxRecDepth 100000 in
/-- The end of a word's arm. -/
theorem rtok_wtail {l : List UInt8} {a m : Nat} {w0 w : World} {ac : Act} {g4 g7 k : Nat} {v5 : Value}
    (HF : Sl 260 [(0, .string (str l)), (1, .int .i64 a), (4, .pointer (some ⟨g4, 0, none⟩)), (5, v5), (7, .pointer (some ⟨g7, 0, none⟩)), (8, .int .i64 ((a : Int) + m))] ac)
    (hl : l.length ≤ 5000) (ham : a + m ≤ l.length) (h : TW w0 w g4 g7 ⟨k, [], 0⟩ a) (hs : tokL (l.drop a) = some (⟨k, (l.drop a).take m, 0⟩, m)) :
    (part [1, 1, 1, 0, 1, 0, 1, 1, 1, 1] rtBody).wp Tryz.prog (RetP (bodyPost Tryz.prog Tryz.f8 (fun e w' => RTok l a w0 e w'))) ac w := by
  have hsz := str_size l
  have he : (str l).extract a (a + m) = str ((l.drop a).take m) := by rw [str_extract, Nat.add_sub_cancel_left]
  have HT := Lib.hid h
  obtain ⟨f0, f1, f2, f3, q0, q1, q2⟩ := h.facts
  have HS := Lib.hid hs
  clear h hs
  conv => arg 2; whnf
  refine wp_seq (wp_region_lit ?_)
  refine sl_move HF rfl rfl (.inl rfl) (by decide) rfl ?_; clear HF; intro _ HF
  refine sl_move HF rfl rfl (.inl rfl) (by decide) rfl ?_; clear HF; intro _ HF
  refine sl_move HF rfl rfl (.inl rfl) (by decide) rfl ?_; clear HF; intro _ HF
  refine sl_op HF rfl rfl (by decide) ?_; intro K hK; have e58 := HF.see 58 rfl; have e59 := HF.see 59 rfl; have e60 := HF.see 60 rfl; go_wp2_with fail; clear e58 e59 e60 HF; intro _ HF
  refine sl_op HF rfl rfl (by decide) ?_; intro K hK; have e7 := HF.see 7 rfl; go_wp2_with fail; clear e7 HF; intro _ HF
  refine sl_op0 HF rfl rfl ?_; intro K hK; have e62 := HF.see 62 rfl; have e61 := HF.see 61 rfl; go_wp2_with fail; clear e62 e61 HF; intro _ HF
  refine sl_nil (wp_seq (wp_region_lit ?_))
  have h1 := HT.out.set1 ((l.drop a).take m)
  clear f0 f1 f2 f3 q0 q1 q2 HT
  generalize World.setCell w ⟨g7, 1, none⟩ (.string (str ((l.drop a).take m))) = w1 at h1 ⊢
  have H1 := Lib.hid h1
  obtain ⟨f0, f1, f2, f3, q0, q1, q2⟩ := h1.facts
  obtain ⟨k0, k1, k2, k3, m0, m1, m2, m3⟩ := h1.facts4
  clear h1
  refine sl_op HF rfl rfl (by decide) ?_; intro K hK; have e7 := HF.see 7 rfl; go_wp2_with fail; clear e7 HF; intro _ HF
  refine sl_move HF rfl rfl (.inl rfl) (by decide) rfl ?_; clear HF; intro _ HF
  refine sl_op0 HF rfl rfl ?_; intro K hK; have e4 := HF.see 4 rfl; have e63 := HF.see 63 rfl; go_wp2_with fail; clear e4 e63 HF; intro _ HF
  refine sl_move HF rfl rfl (.inr rfl) (by decide) rfl ?_; clear HF; intro _ HF
  refine sl_nil (wp_ret ?_)
  exact RetP.mk rfl (rtok_end (t := ⟨k, (l.drop a).take m, 0⟩) HF rfl rfl H1.out (fun t' k' h => by rw [HS.out] at h; cases h; exact ⟨rfl, by simp⟩) (fun h => by rw [HS.out] at h; cases h))

set_option maxHeartbeats 1600000 in
set_option maxRecDepth 100000 in
theorem rtok_letter {l : List UInt8} {a : Nat} {w0 w : World} {ac : Act} {g4 g7 : Nat} {c : UInt8}
    (HF : Sl 260 [(0, .string (str l)), (1, .int .i64 a), (4, .pointer (some ⟨g4, 0, none⟩)), (5, .int .i64 0), (6, .int .u8 c.toNat), (7, .pointer (some ⟨g7, 0, none⟩))] ac)
    (hl : l.length ≤ 5000) (hc : l[a]? = some c) (hlet : letB c = true) (h : TW w0 w g4 g7 ⟨0, [], 0⟩ a) :
    (part [1, 1, 1, 0, 1, 0] rtBody).wp Tryz.prog (RetP (bodyPost Tryz.prog Tryz.f8 (fun e w' => RTok l a w0 e w'))) ac w := by
  have hsz := str_size l
  have hal := (List.getElem?_eq_some_iff.1 hc).1
  have hd : l.drop a = c :: l.drop (a + 1) := by rw [List.drop_eq_getElem_cons hal, (List.getElem?_eq_some_iff.1 hc).2]
  obtain ⟨n, hn⟩ : ∃ n, n = wrdL (l.drop a) := ⟨_, rfl⟩
  have HRUN := Lib.hid (show n = runL wrdB (l.drop a) by rw [hn, hd, wrdL, hlet]; rfl)
  have hnl : a + n ≤ l.length := by
    have := wrdL_le (l.drop a)
    rw [← hn, List.length_drop] at this
    omega
  have HTOK := Lib.hid (show tokL (l.drop a) = if 40 < n then none else if kwB (l.drop a) n then some (⟨2, (l.drop a).take (n + 1), 0⟩, n + 1) else some (⟨1, (l.drop a).take n, 0⟩, n) by
    have h1 := HRUN.out
    rw [h1, hd, tokL, if_pos hlet])
  have HW := Lib.hid (rWord_any l a (by omega) (by omega) w)
  rw [← hn] at HW
  have HT := Lib.hid h
  clear h hn hlet hc
  conv => arg 2; whnf
  refine wp_seq (wp_region_lit ?_)
  refine sl_move HF rfl rfl (.inl rfl) (by decide) rfl ?_; clear HF; intro _ HF
  refine sl_move HF rfl rfl (.inl rfl) (by decide) rfl ?_; clear HF; intro _ HF
  refine sl_op HF rfl rfl (by decide) ?_; intro K hK; have e22 := HF.see 22 rfl; have e23 := HF.see 23 rfl; go_wp2_with fail
  refine HW.out.mono ?_
  rintro e w2 ⟨rfl, rfl⟩
  go_wp2_with fail; clear e22 e23 HF; intro _ HF
  refine sl_move HF rfl rfl (.inr rfl) (by decide) rfl ?_; clear HF; intro _ HF
  refine sl_nil (wp_seq (wp_seq (wp_region_lit ?_)))
  have hz : ((a + n : Nat) : Int) = (a : Int) + n := by omega
  by_cases h40 : 40 < n
  · have HX := Lib.hid (show tokL (l.drop a) = none by rw [HTOK.out, if_pos h40])
    have h40' : decide (40 < (a : Int) + (n : Int) - (a : Int)) = true := by simp; omega
    refine sl_move HF rfl rfl (.inl rfl) (by decide) rfl ?_; clear HF; intro _ HF
    refine sl_move HF rfl rfl (.inl rfl) (by decide) rfl ?_; clear HF; intro _ HF
    refine sl_op HF rfl rfl (by decide) ?_; intro K hK; have e25 := HF.see 25 rfl; have e26 := HF.see 26 rfl; go_wp2_with fail; clear e25 e26 HF; intro _ HF
    refine sl_op HF rfl rfl (by decide) ?_; intro K hK; have e27 := HF.see 27 rfl; go_wp2_with fail; clear e27 HF; intro _ HF
    refine sl_nil (wp_cond_true (HF.at 28 rfl) (wp_seq (wp_region_lit ?_)))
    obtain ⟨f0, f1, f2, f3, _, _, _⟩ := HT.out.facts
    obtain ⟨k0, k1, k2, k3, m0, m1, m2, m3⟩ := HT.out.facts4
    refine sl_op HF rfl rfl (by decide) ?_; intro K hK; have e7 := HF.see 7 rfl; go_wp2_with fail; clear e7 HF; intro _ HF
    refine sl_op0 HF rfl rfl ?_; intro K hK; have e4 := HF.see 4 rfl; have e29 := HF.see 29 rfl; go_wp2_with fail; clear e4 e29 HF; intro _ HF
    refine sl_const HF rfl rfl (.inr rfl) (by decide) ?_; clear HF; intro _ HF
    refine sl_nil (wp_ret ?_)
    dsimp only [Exit.then]
    exact RetP.mk rfl (rtok_end (t := ⟨0, [], 0⟩) HF rfl rfl HT.out (fun t' k h => by rw [HX.out] at h; cases h) (fun _ => rfl))
  · have h40' : decide (40 < (a : Int) + (n : Int) - (a : Int)) = false := by simp; omega
    have HTOK2 := Lib.hid (show tokL (l.drop a) = if kwB (l.drop a) n then some (⟨2, (l.drop a).take (n + 1), 0⟩, n + 1) else some (⟨1, (l.drop a).take n, 0⟩, n) by rw [HTOK.out, if_neg h40])
    refine sl_move HF rfl rfl (.inl rfl) (by decide) rfl ?_; clear HF; intro _ HF
    refine sl_move HF rfl rfl (.inl rfl) (by decide) rfl ?_; clear HF; intro _ HF
    refine sl_op HF rfl rfl (by decide) ?_; intro K hK; have e25 := HF.see 25 rfl; have e26 := HF.see 26 rfl; go_wp2_with fail; clear e25 e26 HF; intro _ HF
    refine sl_op HF rfl rfl (by decide) ?_; intro K hK; have e27 := HF.see 27 rfl; go_wp2_with fail; clear e27 HF; intro _ HF
    refine sl_nil (wp_cond_false (HF.at 28 rfl) (wp_skip (sl_then ?_)))
    clear h40 h40'
    refine wp_seq (wp_region_lit ?_)
    obtain ⟨f0, f1, f2, f3, q0, q1, q2⟩ := HT.out.facts
    refine sl_op HF rfl rfl (by decide) ?_; intro K hK; have e7 := HF.see 7 rfl; go_wp2_with fail; clear e7 HF; intro _ HF
    refine sl_op0 HF rfl rfl ?_; intro K hK; have e30 := HF.see 30 rfl; go_wp2_with fail; clear e30 HF; intro _ HF
    refine sl_nil (wp_seq (wp_seq (wp_region_lit ?_)))
    have h1 := HT.out.set0 1
    generalize World.setCell w ⟨g7, 0, none⟩ (.int .i64 1) = w1 at h1 ⊢
    have H1 := Lib.hid h1
    obtain ⟨r0, r1, r2, r3, s0, s1, s2⟩ := h1.facts
    clear f0 f1 f2 f3 q0 q1 q2 h1
    rcases hx : l[a + n]? with _ | d
    · have HX := Lib.hid (show tokL (l.drop a) = some (⟨1, (l.drop a).take n, 0⟩, n) by
        rw [HTOK2.out, if_neg]; unfold kwB; rw [List.getElem?_drop, hx]; simp)
      have hge : decide ((a : Int) + n < l.length) = false := by
        have := List.getElem?_eq_none_iff.1 hx
        simp
        omega
      clear hx
      refine sl_move HF rfl rfl (.inl rfl) (by decide) rfl ?_; clear HF; intro _ HF
      refine sl_move HF rfl rfl (.inl rfl) (by decide) rfl ?_; clear HF; intro _ HF
      refine sl_op HF rfl rfl (by decide) ?_; intro K hK; have e32 := HF.see 32 rfl; go_wp2_with fail; clear e32 HF; intro _ HF
      refine sl_op HF rfl rfl (by decide) ?_; intro K hK; have e31 := HF.see 31 rfl; have e33 := HF.see 33 rfl; go_wp2_with fail; clear e31 e33 HF; intro _ HF
      refine sl_move HF rfl rfl (.inl rfl) (by decide) rfl ?_; clear HF; intro _ HF
      refine sl_skip HF rfl rfl rfl rfl (by decide) ?_; clear HF; intro _ HF
      refine sl_skip HF rfl rfl rfl rfl (by decide) ?_; clear HF; intro _ HF
      refine sl_skip HF rfl rfl rfl rfl (by decide) ?_; clear HF; intro _ HF
      refine sl_skip HF rfl rfl rfl rfl (by decide) ?_; clear HF; intro _ HF
      refine sl_op HF rfl rfl (by decide) ?_; intro K hK; have e35 := HF.see 35 rfl; have e39 := HF.see 39 rfl; go_wp2_with fail; clear e35 e39 HF; intro _ HF
      refine sl_move HF rfl rfl (.inl rfl) (by decide) rfl ?_; clear HF; intro _ HF
      refine sl_skip HF rfl rfl rfl rfl (by decide) ?_; clear HF; intro _ HF
      refine sl_skip HF rfl rfl rfl rfl (by decide) ?_; clear HF; intro _ HF
      refine sl_skip HF rfl rfl rfl rfl (by decide) ?_; clear HF; intro _ HF
      refine sl_skip HF rfl rfl rfl rfl (by decide) ?_; clear HF; intro _ HF
      refine sl_skip HF rfl rfl rfl rfl (by decide) ?_; clear HF; intro _ HF
      refine sl_skip HF rfl rfl rfl rfl (by decide) ?_; clear HF; intro _ HF
      refine sl_skip_u HF rfl rfl rfl rfl (by decide) ?_; clear HF; intro _ HF
      refine sl_skip_u HF rfl rfl rfl rfl (by decide) ?_; clear HF; intro _ HF
      refine sl_skip_u HF rfl rfl rfl rfl (by decide) ?_; clear HF; intro _ HF
      refine sl_skip_u HF rfl rfl rfl rfl (by decide) ?_; clear HF; intro _ HF
      refine sl_skip_u HF rfl rfl rfl rfl (by decide) ?_; clear HF; intro _ HF
      refine sl_skip HF rfl rfl rfl rfl (by decide) ?_; clear HF; intro _ HF
      refine sl_op HF rfl rfl (by decide) ?_; intro K hK; have e41 := HF.see 41 rfl; have e53 := HF.see 53 rfl; go_wp2_with fail; clear e41 e53 HF; intro _ HF
      refine sl_nil (wp_cond_false (HF.at 54 rfl) (wp_skip (sl_then ?_)))
      exact rtok_wtail (m := n) (HF.keep [0, 1, 4, 5, 7, 8]) hl (by omega) H1.out HX.out
    · have hlt := (List.getElem?_eq_some_iff.1 hx).1
      have hg := str_getE hx (by omega)
      have hlt' : decide ((a : Int) + n < l.length) = true := by simp; omega
      by_cases h58 : d = 58
      · subst h58
        rcases hy : l[a + n + 1]? with _ | e
        · have HX := Lib.hid (show tokL (l.drop a) = some (⟨2, (l.drop a).take (n + 1), 0⟩, n + 1) by
            rw [HTOK2.out, if_pos]; unfold kwB; rw [List.getElem?_drop, hx, List.getElem?_drop, show a + (n + 1) = a + n + 1 by omega, hy]; rfl)
          have heq : ((a : Int) + n + 1 == (l.length : Int)) = true := by
            have := List.getElem?_eq_none_iff.1 hy
            simp
            omega
          clear hx hy
          refine sl_move HF rfl rfl (.inl rfl) (by decide) rfl ?_; clear HF; intro _ HF
          refine sl_move HF rfl rfl (.inl rfl) (by decide) rfl ?_; clear HF; intro _ HF
          refine sl_op HF rfl rfl (by decide) ?_; intro K hK; have e32 := HF.see 32 rfl; go_wp2_with fail; clear e32 HF; intro _ HF
          refine sl_op HF rfl rfl (by decide) ?_; intro K hK; have e31 := HF.see 31 rfl; have e33 := HF.see 33 rfl; go_wp2_with fail; clear e31 e33 HF; intro _ HF
          refine sl_move HF rfl rfl (.inl rfl) (by decide) rfl ?_; clear HF; intro _ HF
          refine sl_want HF rfl rfl rfl rfl (by decide) ?_; intro K hK; have e0 := HF.see 0 rfl; go_wp2_with fail; clear e0 HF; intro _ HF
          refine sl_want HF rfl rfl rfl rfl (by decide) ?_; intro K hK; have e8 := HF.see 8 rfl; go_wp2_with fail; clear e8 HF; intro _ HF
          refine sl_want HF rfl rfl rfl rfl (by decide) ?_; intro K hK; have e36 := HF.see 36 rfl; have e37 := HF.see 37 rfl; go_wp2_with fail; clear e36 e37 HF; intro _ HF
          refine sl_want HF rfl rfl rfl rfl (by decide) ?_; intro K hK; have e38 := HF.see 38 rfl; go_wp2_with fail; clear e38 HF; intro _ HF
          refine sl_op HF rfl rfl (by decide) ?_; intro K hK; have e35 := HF.see 35 rfl; have e39 := HF.see 39 rfl; go_wp2_with fail; clear e35 e39 HF; intro _ HF
          refine sl_move HF rfl rfl (.inl rfl) (by decide) rfl ?_; clear HF; intro _ HF
          refine sl_want HF rfl rfl rfl rfl (by decide) ?_; intro K hK; have e8 := HF.see 8 rfl; go_wp2_with fail; clear e8 HF; intro _ HF
          refine sl_want HF rfl rfl rfl rfl (by decide) ?_; intro K hK; have e42 := HF.see 42 rfl; go_wp2_with fail; clear e42 HF; intro _ HF
          refine sl_want HF rfl rfl rfl rfl (by decide) ?_; intro K hK; have e0 := HF.see 0 rfl; go_wp2_with fail; clear e0 HF; intro _ HF
          refine sl_want HF rfl rfl rfl rfl (by decide) ?_; intro K hK; have e44 := HF.see 44 rfl; go_wp2_with fail; clear e44 HF; intro _ HF
          refine sl_want HF rfl rfl rfl rfl (by decide) ?_; intro K hK; have e43 := HF.see 43 rfl; have e45 := HF.see 45 rfl; go_wp2_with fail; clear e43 e45 HF; intro _ HF
          refine sl_want HF rfl rfl rfl rfl (by decide) ?_; intro K hK; have e46 := HF.see 46 rfl; go_wp2_with fail; clear e46 HF; intro _ HF
          refine sl_skip HF rfl rfl rfl rfl (by decide) ?_; clear HF; intro _ HF
          refine sl_skip HF rfl rfl rfl rfl (by decide) ?_; clear HF; intro _ HF
          refine sl_skip HF rfl rfl rfl rfl (by decide) ?_; clear HF; intro _ HF
          refine sl_skip HF rfl rfl rfl rfl (by decide) ?_; clear HF; intro _ HF
          refine sl_skip HF rfl rfl rfl rfl (by decide) ?_; clear HF; intro _ HF
          refine sl_want HF rfl rfl rfl rfl (by decide) ?_; intro K hK; have e47 := HF.see 47 rfl; have e52 := HF.see 52 rfl; go_wp2_with fail; clear e47 e52 HF; intro _ HF
          refine sl_op HF rfl rfl (by decide) ?_; intro K hK; have e41 := HF.see 41 rfl; have e53 := HF.see 53 rfl; go_wp2_with fail; clear e41 e53 HF; intro _ HF
          refine sl_nil (wp_cond_true (HF.at 54 rfl) (wp_seq (wp_region_lit ?_)))
          refine sl_op HF rfl rfl (by decide) ?_; intro K hK; have e7 := HF.see 7 rfl; go_wp2_with fail; clear e7 HF; intro _ HF
          refine sl_op0 HF rfl rfl ?_; intro K hK; have e55 := HF.see 55 rfl; go_wp2_with fail; clear e55 HF; intro _ HF
          refine sl_nil (wp_region_lit ?_)
          have h2 := H1.out.set0 2
          generalize World.setCell w1 ⟨g7, 0, none⟩ (.int .i64 2) = w3 at h2 ⊢
          refine sl_move HF rfl rfl (.inl rfl) (by decide) rfl ?_; clear HF; intro _ HF
          refine sl_op HF rfl rfl (by decide) ?_; intro K hK; have e56 := HF.see 56 rfl; go_wp2_with fail; clear e56 HF; intro _ HF
          refine sl_move HF rfl rfl (.inr rfl) (by decide) rfl ?_; clear HF; intro _ HF
          refine wpList_nil (sl_then ?_)
          exact rtok_wtail (m := n + 1) (by have := HF.keep [0, 1, 4, 5, 7, 8]; rw [show (a : Int) + (n : Int) + 1 = (a : Int) + ((n + 1 : Nat) : Int) by omega] at this; exact this) hl (by omega) h2 HX.out
        · have hlt2 := (List.getElem?_eq_some_iff.1 hy).1
          have hg2 := str_getE hy (by omega)
          have heq : ((a : Int) + n + 1 == (l.length : Int)) = false := by simp; omega
          by_cases h61 : e = 61
          · subst h61
            have HX := Lib.hid (show tokL (l.drop a) = some (⟨1, (l.drop a).take n, 0⟩, n) by
              rw [HTOK2.out, if_neg]; unfold kwB; rw [List.getElem?_drop, hx, List.getElem?_drop, show a + (n + 1) = a + n + 1 by omega, hy]; simp)
            clear hx hy
            refine sl_move HF rfl rfl (.inl rfl) (by decide) rfl ?_; clear HF; intro _ HF
            refine sl_move HF rfl rfl (.inl rfl) (by decide) rfl ?_; clear HF; intro _ HF
            refine sl_op HF rfl rfl (by decide) ?_; intro K hK; have e32 := HF.see 32 rfl; go_wp2_with fail; clear e32 HF; intro _ HF
            refine sl_op HF rfl rfl (by decide) ?_; intro K hK; have e31 := HF.see 31 rfl; have e33 := HF.see 33 rfl; go_wp2_with fail; clear e31 e33 HF; intro _ HF
            refine sl_move HF rfl rfl (.inl rfl) (by decide) rfl ?_; clear HF; intro _ HF
            refine sl_want HF rfl rfl rfl rfl (by decide) ?_; intro K hK; have e0 := HF.see 0 rfl; go_wp2_with fail; clear e0 HF; intro _ HF
            refine sl_want HF rfl rfl rfl rfl (by decide) ?_; intro K hK; have e8 := HF.see 8 rfl; go_wp2_with fail; clear e8 HF; intro _ HF
            refine sl_want HF rfl rfl rfl rfl (by decide) ?_; intro K hK; have e36 := HF.see 36 rfl; have e37 := HF.see 37 rfl; go_wp2_with fail; clear e36 e37 HF; intro _ HF
            refine sl_want HF rfl rfl rfl rfl (by decide) ?_; intro K hK; have e38 := HF.see 38 rfl; go_wp2_with fail; clear e38 HF; intro _ HF
            refine sl_op HF rfl rfl (by decide) ?_; intro K hK; have e35 := HF.see 35 rfl; have e39 := HF.see 39 rfl; go_wp2_with fail; clear e35 e39 HF; intro _ HF
            refine sl_move HF rfl rfl (.inl rfl) (by decide) rfl ?_; clear HF; intro _ HF
            refine sl_want HF rfl rfl rfl rfl (by decide) ?_; intro K hK; have e8 := HF.see 8 rfl; go_wp2_with fail; clear e8 HF; intro _ HF
            refine sl_want HF rfl rfl rfl rfl (by decide) ?_; intro K hK; have e42 := HF.see 42 rfl; go_wp2_with fail; clear e42 HF; intro _ HF
            refine sl_want HF rfl rfl rfl rfl (by decide) ?_; intro K hK; have e0 := HF.see 0 rfl; go_wp2_with fail; clear e0 HF; intro _ HF
            refine sl_want HF rfl rfl rfl rfl (by decide) ?_; intro K hK; have e44 := HF.see 44 rfl; go_wp2_with fail; clear e44 HF; intro _ HF
            refine sl_want HF rfl rfl rfl rfl (by decide) ?_; intro K hK; have e43 := HF.see 43 rfl; have e45 := HF.see 45 rfl; go_wp2_with fail; clear e43 e45 HF; intro _ HF
            refine sl_want HF rfl rfl rfl rfl (by decide) ?_; intro K hK; have e46 := HF.see 46 rfl; go_wp2_with fail; clear e46 HF; intro _ HF
            refine sl_want HF rfl rfl rfl rfl (by decide) ?_; intro K hK; have e0 := HF.see 0 rfl; go_wp2_with fail; clear e0 HF; intro _ HF
            refine sl_want HF rfl rfl rfl rfl (by decide) ?_; intro K hK; have e8 := HF.see 8 rfl; go_wp2_with fail; clear e8 HF; intro _ HF
            refine sl_want HF rfl rfl rfl rfl (by decide) ?_; intro K hK; have e49 := HF.see 49 rfl; go_wp2_with fail; clear e49 HF; intro _ HF
            refine sl_want HF rfl rfl rfl rfl (by decide) ?_; intro K hK; have e48 := HF.see 48 rfl; have e50 := HF.see 50 rfl; go_wp2_with fail; clear e48 e50 HF; intro _ HF
            refine sl_want HF rfl rfl rfl rfl (by decide) ?_; intro K hK; have e51 := HF.see 51 rfl; go_wp2_with fail; clear e51 HF; intro _ HF
            refine sl_want HF rfl rfl rfl rfl (by decide) ?_; intro K hK; have e47 := HF.see 47 rfl; have e52 := HF.see 52 rfl; go_wp2_with fail; clear e47 e52 HF; intro _ HF
            refine sl_op HF rfl rfl (by decide) ?_; intro K hK; have e41 := HF.see 41 rfl; have e53 := HF.see 53 rfl; go_wp2_with fail; clear e41 e53 HF; intro _ HF
            refine sl_nil (wp_cond_false (HF.at 54 rfl) (wp_skip (sl_then ?_)))
            exact rtok_wtail (m := n) (HF.keep [0, 1, 4, 5, 7, 8]) hl (by omega) H1.out HX.out
          · have HX := Lib.hid (show tokL (l.drop a) = some (⟨2, (l.drop a).take (n + 1), 0⟩, n + 1) by
              rw [HTOK2.out, if_pos]; unfold kwB; rw [List.getElem?_drop, hx, List.getElem?_drop, show a + (n + 1) = a + n + 1 by omega, hy]; simp [h61])
            have hne2 : ((e.toNat : Int) == 61) = false := ne_of_u8 h61
            have hne3 : ((e.toNat : Int) != 61) = true := by rw [bne, hne2]; rfl
            have hu := u8_lt e
            clear hx hy h61
            refine sl_move HF rfl rfl (.inl rfl) (by decide) rfl ?_; clear HF; intro _ HF
            refine sl_move HF rfl rfl (.inl rfl) (by decide) rfl ?_; clear HF; intro _ HF
            refine sl_op HF rfl rfl (by decide) ?_; intro K hK; have e32 := HF.see 32 rfl; go_wp2_with fail; clear e32 HF; intro _ HF
            refine sl_op HF rfl rfl (by decide) ?_; intro K hK; have e31 := HF.see 31 rfl; have e33 := HF.see 33 rfl; go_wp2_with fail; clear e31 e33 HF; intro _ HF
            refine sl_move HF rfl rfl (.inl rfl) (by decide) rfl ?_; clear HF; intro _ HF
            refine sl_want HF rfl rfl rfl rfl (by decide) ?_; intro K hK; have e0 := HF.see 0 rfl; go_wp2_with fail; clear e0 HF; intro _ HF
            refine sl_want HF rfl rfl rfl rfl (by decide) ?_; intro K hK; have e8 := HF.see 8 rfl; go_wp2_with fail; clear e8 HF; intro _ HF
            refine sl_want HF rfl rfl rfl rfl (by decide) ?_; intro K hK; have e36 := HF.see 36 rfl; have e37 := HF.see 37 rfl; go_wp2_with fail; clear e36 e37 HF; intro _ HF
            refine sl_want HF rfl rfl rfl rfl (by decide) ?_; intro K hK; have e38 := HF.see 38 rfl; go_wp2_with fail; clear e38 HF; intro _ HF
            refine sl_op HF rfl rfl (by decide) ?_; intro K hK; have e35 := HF.see 35 rfl; have e39 := HF.see 39 rfl; go_wp2_with fail; clear e35 e39 HF; intro _ HF
            refine sl_move HF rfl rfl (.inl rfl) (by decide) rfl ?_; clear HF; intro _ HF
            refine sl_want HF rfl rfl rfl rfl (by decide) ?_; intro K hK; have e8 := HF.see 8 rfl; go_wp2_with fail; clear e8 HF; intro _ HF
            refine sl_want HF rfl rfl rfl rfl (by decide) ?_; intro K hK; have e42 := HF.see 42 rfl; go_wp2_with fail; clear e42 HF; intro _ HF
            refine sl_want HF rfl rfl rfl rfl (by decide) ?_; intro K hK; have e0 := HF.see 0 rfl; go_wp2_with fail; clear e0 HF; intro _ HF
            refine sl_want HF rfl rfl rfl rfl (by decide) ?_; intro K hK; have e44 := HF.see 44 rfl; go_wp2_with fail; clear e44 HF; intro _ HF
            refine sl_want HF rfl rfl rfl rfl (by decide) ?_; intro K hK; have e43 := HF.see 43 rfl; have e45 := HF.see 45 rfl; go_wp2_with fail; clear e43 e45 HF; intro _ HF
            refine sl_want HF rfl rfl rfl rfl (by decide) ?_; intro K hK; have e46 := HF.see 46 rfl; go_wp2_with fail; clear e46 HF; intro _ HF
            refine sl_want HF rfl rfl rfl rfl (by decide) ?_; intro K hK; have e0 := HF.see 0 rfl; go_wp2_with fail; clear e0 HF; intro _ HF
            refine sl_want HF rfl rfl rfl rfl (by decide) ?_; intro K hK; have e8 := HF.see 8 rfl; go_wp2_with fail; clear e8 HF; intro _ HF
            refine sl_want HF rfl rfl rfl rfl (by decide) ?_; intro K hK; have e49 := HF.see 49 rfl; go_wp2_with fail; clear e49 HF; intro _ HF
            refine sl_want HF rfl rfl rfl rfl (by decide) ?_; intro K hK; have e48 := HF.see 48 rfl; have e50 := HF.see 50 rfl; go_wp2_with fail; clear e48 e50 HF; intro _ HF
            refine sl_want HF rfl rfl rfl rfl (by decide) ?_; intro K hK; have e51 := HF.see 51 rfl; go_wp2_with fail; clear e51 HF; intro _ HF
            refine sl_want HF rfl rfl rfl rfl (by decide) ?_; intro K hK; have e47 := HF.see 47 rfl; have e52 := HF.see 52 rfl; go_wp2_with fail; clear e47 e52 HF; intro _ HF
            refine sl_op HF rfl rfl (by decide) ?_; intro K hK; have e41 := HF.see 41 rfl; have e53 := HF.see 53 rfl; go_wp2_with fail; clear e41 e53 HF; intro _ HF
            refine sl_nil (wp_cond_true (HF.at 54 rfl) (wp_seq (wp_region_lit ?_)))
            refine sl_op HF rfl rfl (by decide) ?_; intro K hK; have e7 := HF.see 7 rfl; go_wp2_with fail; clear e7 HF; intro _ HF
            refine sl_op0 HF rfl rfl ?_; intro K hK; have e55 := HF.see 55 rfl; go_wp2_with fail; clear e55 HF; intro _ HF
            refine sl_nil (wp_region_lit ?_)
            have h2 := H1.out.set0 2
            generalize World.setCell w1 ⟨g7, 0, none⟩ (.int .i64 2) = w3 at h2 ⊢
            refine sl_move HF rfl rfl (.inl rfl) (by decide) rfl ?_; clear HF; intro _ HF
            refine sl_op HF rfl rfl (by decide) ?_; intro K hK; have e56 := HF.see 56 rfl; go_wp2_with fail; clear e56 HF; intro _ HF
            refine sl_move HF rfl rfl (.inr rfl) (by decide) rfl ?_; clear HF; intro _ HF
            refine wpList_nil (sl_then ?_)
            exact rtok_wtail (m := n + 1) (by have := HF.keep [0, 1, 4, 5, 7, 8]; rw [show (a : Int) + (n : Int) + 1 = (a : Int) + ((n + 1 : Nat) : Int) by omega] at this; exact this) hl (by omega) h2 HX.out
      · have HX := Lib.hid (show tokL (l.drop a) = some (⟨1, (l.drop a).take n, 0⟩, n) by
          rw [HTOK2.out, if_neg]; unfold kwB; rw [List.getElem?_drop, hx]; simp [h58])
        have hne2 : ((d.toNat : Int) == 58) = false := ne_of_u8 h58
        have hu := u8_lt d
        clear hx h58
        refine sl_move HF rfl rfl (.inl rfl) (by decide) rfl ?_; clear HF; intro _ HF
        refine sl_move HF rfl rfl (.inl rfl) (by decide) rfl ?_; clear HF; intro _ HF
        refine sl_op HF rfl rfl (by decide) ?_; intro K hK; have e32 := HF.see 32 rfl; go_wp2_with fail; clear e32 HF; intro _ HF
        refine sl_op HF rfl rfl (by decide) ?_; intro K hK; have e31 := HF.see 31 rfl; have e33 := HF.see 33 rfl; go_wp2_with fail; clear e31 e33 HF; intro _ HF
        refine sl_move HF rfl rfl (.inl rfl) (by decide) rfl ?_; clear HF; intro _ HF
        refine sl_want HF rfl rfl rfl rfl (by decide) ?_; intro K hK; have e0 := HF.see 0 rfl; go_wp2_with fail; clear e0 HF; intro _ HF
        refine sl_want HF rfl rfl rfl rfl (by decide) ?_; intro K hK; have e8 := HF.see 8 rfl; go_wp2_with fail; clear e8 HF; intro _ HF
        refine sl_want HF rfl rfl rfl rfl (by decide) ?_; intro K hK; have e36 := HF.see 36 rfl; have e37 := HF.see 37 rfl; go_wp2_with fail; clear e36 e37 HF; intro _ HF
        refine sl_want HF rfl rfl rfl rfl (by decide) ?_; intro K hK; have e38 := HF.see 38 rfl; go_wp2_with fail; clear e38 HF; intro _ HF
        refine sl_op HF rfl rfl (by decide) ?_; intro K hK; have e35 := HF.see 35 rfl; have e39 := HF.see 39 rfl; go_wp2_with fail; clear e35 e39 HF; intro _ HF
        refine sl_move HF rfl rfl (.inl rfl) (by decide) rfl ?_; clear HF; intro _ HF
        refine sl_skip HF rfl rfl rfl rfl (by decide) ?_; clear HF; intro _ HF
        refine sl_skip HF rfl rfl rfl rfl (by decide) ?_; clear HF; intro _ HF
        refine sl_skip HF rfl rfl rfl rfl (by decide) ?_; clear HF; intro _ HF
        refine sl_skip HF rfl rfl rfl rfl (by decide) ?_; clear HF; intro _ HF
        refine sl_skip HF rfl rfl rfl rfl (by decide) ?_; clear HF; intro _ HF
        refine sl_skip HF rfl rfl rfl rfl (by decide) ?_; clear HF; intro _ HF
        refine sl_skip_u HF rfl rfl rfl rfl (by decide) ?_; clear HF; intro _ HF
        refine sl_skip_u HF rfl rfl rfl rfl (by decide) ?_; clear HF; intro _ HF
        refine sl_skip_u HF rfl rfl rfl rfl (by decide) ?_; clear HF; intro _ HF
        refine sl_skip_u HF rfl rfl rfl rfl (by decide) ?_; clear HF; intro _ HF
        refine sl_skip_u HF rfl rfl rfl rfl (by decide) ?_; clear HF; intro _ HF
        refine sl_skip HF rfl rfl rfl rfl (by decide) ?_; clear HF; intro _ HF
        refine sl_op HF rfl rfl (by decide) ?_; intro K hK; have e41 := HF.see 41 rfl; have e53 := HF.see 53 rfl; go_wp2_with fail; clear e41 e53 HF; intro _ HF
        refine sl_nil (wp_cond_false (HF.at 54 rfl) (wp_skip (sl_then ?_)))
        exact rtok_wtail (m := n) (HF.keep [0, 1, 4, 5, 7, 8]) hl (by omega) H1.out HX.out
end Go.Proofs.YtefloadjolpgbaaGreatDoor

namespace Go.Proofs.YtefloadjolpgbaaGreatDoor
open Go.RowKit

structure PhSt (W W' : World) (k : Nat) (h : Hist) (w : World) : Prop where
  s0 : k = 0 → w = W
  s1 : k = 1 → w = W'
theorem PhSt.init (W W' : World) (h : Hist) : PhSt W W' 0 h W := ⟨fun _ => rfl, fun h => absurd h (by decide)⟩
theorem PhSt.done (W W' : World) (h : Hist) : PhSt W W' 1 h W' := ⟨fun h => absurd h (by decide), fun _ => rfl⟩
/-- A region with one call in it, whose result is known. -/
structure PhCl (W : World) (v : Value) (k : Nat) (h : Hist) (w : World) : Prop where
  s0 : k = 0 → w = W
  s1 : k = 1 → Mod Nil W w ∧ h 0 = v
end Go.Proofs.YtefloadjolpgbaaGreatDoor
