/- name.keywords, name.Kind, walked. -/
import Derived.Test.YtpjpmlhnhcmacaaGreatDoorNmK
namespace Go.Proofs.YtpjpmlhnhcmacaaGreatDoor
open Go.RowKit

theorem trimSuffix_colon (p : List UInt8) : Lib.trimSuffix (p ++ [58]) [58] = p := by
  unfold Lib.trimSuffix Lib.hasSuffix
  rw [if_pos (by simp [List.isSuffixOf_iff_suffix])]
  simp

set_option maxHeartbeats 400000 in
set_option maxRecDepth 100000 in
theorem kwFn_any (p : List UInt8) (hp : p.length ≤ 5000) (w : World) : Calls Tryz.prog 144 #[.string (str (p ++ [58]))] w fun e w' => e = .returned (.bool (!nmLower p)) ∧ Mod Nil w w' := by
  have hsz := str_size (p ++ [58])
  rw [List.length_append, List.length_singleton] at hsz
  go_enter Tryz.func144, Tryz.ntmps144
  go_wp2_with fail
  refine (Tryz.strings_TrimSuffix (str (p ++ [58])) (str [58]) _ (by omega)).mono ?_
  rintro e w2 ⟨rfl, rfl⟩
  rw [show (⟨(Lib.trimSuffix (str (p ++ [58])).data.toList (str [58]).data.toList).toArray⟩ : ByteArray) = str p from congrArg str (trimSuffix_colon p)]
  go_wp2_with fail
  refine (nmLower_any p (by omega) _).mono ?_
  rintro e w3 ⟨rfl, hm⟩
  have HM := Lib.hid hm
  clear hm
  go_wp2_with fail
  go_ret
  exact ⟨rfl, HM.out⟩

set_option maxHeartbeats 1600000 in
set_option maxRecDepth 100000 in
theorem sIndexFunc_any (A : Option Addr) (n cap : Nat) (ps : List (List UInt8)) (w : World) (hn : ps.length = n) (hbig : n ≤ 5000) (hps : ∀ p ∈ ps, p.length ≤ 5000)
    (hr : Rd All w A (ps.map fun p => sv (p ++ [58]))) :
    Calls Tryz.prog 179 #[.slice A n cap, fnv 144] w fun r w' => ∃ i : Int, r = .returned (.int .i64 i) ∧ (0 ≤ i ↔ ps.all nmLower = false) ∧ Mod Nil w w' := by
  have HR := Lib.hid hr
  have HPS := Lib.hid hps
  clear hr hps
  unfold fnv
  go_enter Tryz.func179, Tryz.ntmps179
  go_wp2_with fail
  go_loopw [8] (fun i wr => ∃ (k : Nat), k ≤ n ∧ i = .int .i64 k ∧ (∀ j p, j < k → ps[j]? = some p → nmLower p = true) ∧ Mod Nil w wr) (fun v _ => n - (intOf v).toNat)
  case atStart => exact ⟨0, Nat.zero_le _, rfl, fun j i hj => absurd hj (by omega), Mod.refl _ _⟩
  case round =>
    obtain ⟨k, hk, rfl, hno, hm⟩ := hrel
    have HNO := Lib.hid hno
    have HM := Lib.hid hm
    clear hno hm
    by_cases hlt : k < n
    · obtain ⟨p, hp⟩ : ∃ p, ps[k]? = some p := ⟨_, List.getElem?_eq_getElem (by omega)⟩
      have hcell : (ps.map fun p => sv (p ++ [58]))[k]? = some (sv (p ++ [58])) := by rw [List.getElem?_map, hp]; rfl
      obtain ⟨ad, rfl, _, hadl, hcell'⟩ := (HR.out.keep0 HM.out).at_ hcell
      have hpl := HPS.out p (List.mem_of_getElem? hp)
      have hbad : nmLower p = false → ps.all nmLower = false := fun h => by
        rw [List.all_eq_false]
        exact ⟨p, List.mem_of_getElem? hp, by simp [h]⟩
      have hgood : nmLower p = true → ∀ j q, j < k + 1 → ps[j]? = some q → nmLower q = true := fun h j q hj hq => by
        rcases Nat.lt_or_ge j k with h1 | h1
        · exact HNO.out j q h1 hq
        · have : j = k := by omega
          subst this
          rw [hp] at hq
          cases hq
          exact h
      have HB := Lib.hid hbad
      have HG := Lib.hid hgood
      simp only [sv] at hcell'
      clear hbad hgood hcell hp hn
      go_wp2_with fail
      refine (kwFn_any p hpl _).mono ?_
      rintro e w2 ⟨rfl, hm⟩
      have HM2 := Lib.hid (HM.out.trans hm)
      clear hm
      rcases hb : nmLower p with _ | _
      · have HX := Lib.hid (HB.out hb)
        clear hb
        go_wp2_with fail
        go_ret
        exact ⟨_, rfl, ⟨fun _ => HX.out, fun _ => by omega⟩, HM2.out⟩
      · have HX := Lib.hid (HG.out hb)
        clear hb
        go_wp2_with fail
        refine ⟨⟨k + 1, hlt, rfl, HX.out, HM2.out⟩, ?_⟩
        simp [intOf]
        omega
    · have HX := Lib.hid (show ps.all nmLower = true by
        rw [List.all_eq_true]
        intro p hp
        obtain ⟨j, hj⟩ := List.getElem?_of_mem hp
        have := (List.getElem?_eq_some_iff.1 hj).1
        exact HNO.out j p (by omega) hj)
      go_wp2_with fail
      go_ret
      exact ⟨_, rfl, by rw [HX.out]; simp, HM.out⟩

set_option maxHeartbeats 400000 in
set_option maxRecDepth 100000 in
theorem sContainsFunc_any (A : Option Addr) (n cap : Nat) (ps : List (List UInt8)) (w : World) (hn : ps.length = n) (hbig : n ≤ 5000) (hps : ∀ p ∈ ps, p.length ≤ 5000)
    (hr : Rd All w A (ps.map fun p => sv (p ++ [58]))) :
    Calls Tryz.prog 143 #[.slice A n cap, fnv 144] w fun r w' => r = .returned (.bool (!ps.all nmLower)) ∧ Mod Nil w w' := by
  have HI := Lib.hid (sIndexFunc_any A n cap ps w hn hbig hps hr)
  unfold fnv at HI ⊢
  clear hr hps
  go_enter Tryz.func143, Tryz.ntmps143
  go_wp2_with fail
  refine HI.out.mono ?_
  rintro e w2 ⟨i, rfl, hi, hm⟩
  have HM := Lib.hid hm
  have HIF := Lib.hid hi
  clear hm hi
  go_wp2_with fail
  go_ret
  refine ⟨ret_bool ?_, HM.out⟩
  have := HIF.out
  rw [Bool.eq_iff_iff]
  simpa using this

/-- The parts of a keyword selector. -/
def kwL (l : List UInt8) : List (List UInt8) := if nmKw l then (splitC l).1.map (· ++ [58]) else []

set_option maxHeartbeats 1600000 in
set_option maxRecDepth 100000 in
theorem nmSplit_any (l : List UInt8) (hl : l.length ≤ 5000) (w : World) :
    Calls Tryz.prog 142 #[.string (str l), .string ⟨#[58]⟩] w fun e w' => e = .returned (.slice (some ⟨w.heap.size, 0, none⟩) ((splitC l).1.length + 1) ((splitC l).1.length + 1)) ∧
      Blk w' w.heap.size 9 ((splitC l).1.map (fun p => sv (p ++ [58])) ++ [sv (splitC l).2]).toArray ∧ Mod Nil w w' := by
  have HI := Lib.hid (gsplit_any l hl w)
  go_enter Tryz.func142, Tryz.ntmps142
  go_wp2_with fail
  refine HI.out.mono ?_
  rintro e w2 ⟨rfl, h1, h2⟩
  have H1 := Lib.hid h1
  have H2 := Lib.hid h2
  clear h1 h2
  go_wp2_with fail
  go_ret
  exact ⟨rfl, H1.out, H2.out⟩

theorem splitC_mem : ∀ {l p : List UInt8}, p ∈ (splitC l).1 → p.length ≤ l.length := by
  intro l p hp
  have h1 := splitC_join l
  have h2 : (p ++ [58]).length ≤ ((splitC l).1.flatMap (· ++ [58])).length := by
    clear h1
    generalize (splitC l).1 = ps at hp
    induction ps with
    | nil => cases hp
    | cons q qs ih =>
      simp only [List.flatMap_cons, List.length_append] at ih ⊢
      rcases List.mem_cons.1 hp with rfl | h
      · omega
      · have := ih h
        omega
  have h3 := congrArg List.length h1
  simp only [List.length_append] at h2 h3
  omega

set_option maxHeartbeats 1600000 in
set_option maxRecDepth 100000 in
theorem nmKeywords_any (l : List UInt8) (hl : l.length ≤ 5000) (w : World) :
    Calls Tryz.prog 91 #[.string (str l)] w fun e w' => ∃ A c, e = .returned (.slice A (kwL l).length c) ∧ Rd (fun b => w.heap.size ≤ b) w' A ((kwL l).map sv) ∧ Mod Nil w w' := by
  have HI := Lib.hid (nmSplit_any l hl w)
  have hlen := splitC_len l
  have HMEM := Lib.hid (fun p hp => splitC_mem (l := l) (p := p) hp)
  have HK : kwL l = if nmKw l then (splitC l).1.map (· ++ [58]) else [] := rfl
  have HKW : nmKw l = ((splitC l).2.isEmpty && decide (1 ≤ (splitC l).1.length) && decide ((splitC l).1.length ≤ 10) && (splitC l).1.all nmLower) := rfl
  obtain ⟨ps, hps⟩ : ∃ ps, ps = (splitC l).1 := ⟨_, rfl⟩
  obtain ⟨rest, hrest⟩ : ∃ rest, rest = (splitC l).2 := ⟨_, rfl⟩
  rw [← hps, ← hrest] at HKW
  rw [← hps] at HK hlen HMEM
  rw [← hps, ← hrest] at HI
  obtain ⟨n, hn⟩ : ∃ n, n = ps.length := ⟨_, rfl⟩
  rw [← hn] at HI HKW hlen
  have HNP := Lib.hid hn
  have HK := Lib.hid HK
  have HKW := Lib.hid HKW
  have hno : nmKw l = false → kwL l = [] := fun h => by rw [HK.out, h]; rfl
  have HNO := Lib.hid hno
  clear hps hrest hn hno
  go_enter Tryz.func91, Tryz.ntmps91
  go_wp2_with fail
  refine HI.out.mono ?_
  rintro e w2 ⟨rfl, h1, h2⟩
  have hc := h1.cell n
  have hcl : w2.cell? ⟨w.heap.size, n, none⟩ = some (.string (str rest)) := by
    rw [hc, HNP.out]
    simp [sv]
  have HB := Lib.hid h1
  have HM := Lib.hid h2
  have hemp : (str rest).toList.isEmpty = rest.isEmpty := by rw [str_toList]
  clear h1 h2 hc
  have hnil : kwL l = [] → ∃ A c, Value.slice none 0 0 = .slice A (kwL l).length c ∧ Rd (fun b => w.heap.size ≤ b) w2 A ((kwL l).map sv) ∧ Mod Nil w w2 := fun h => by
    rw [h]
    exact ⟨none, 0, rfl, Rd.nil _ _ _, HM.out⟩
  have HNIL := Lib.hid hnil
  clear hnil
  by_cases h0 : n = 0
  · have HX := Lib.hid (HNIL.out (HNO.out (by rw [HKW.out, h0]; simp)))
    have hi : ((n : Int) + 1 < 2) := by omega
    go_wp2_with fail
    go_ret
    obtain ⟨A, c, h1, h2⟩ := HX.out
    exact ⟨A, c, congrArg Ending.returned h1, h2⟩
  · have hi : ¬ ((n : Int) + 1 < 2) := by omega
    by_cases h10 : 10 < n
    · have HX := Lib.hid (HNIL.out (HNO.out (by rw [HKW.out]; have : decide (n ≤ 10) = false := by simp; omega
                                                rw [this]; simp)))
      have hi2 : ((n : Int) + 1 > 11) := by omega
      go_wp2_with fail
      go_ret
      obtain ⟨A, c, h1, h2⟩ := HX.out
      exact ⟨A, c, congrArg Ending.returned h1, h2⟩
    · have hi2 : ¬ ((n : Int) + 1 > 11) := by omega
      rcases hre : rest.isEmpty with _ | _
      · have HX := Lib.hid (HNIL.out (HNO.out (by rw [HKW.out, hre]; rfl)))
        rw [hre] at hemp
        go_wp2_with fail
        go_ret
        obtain ⟨A, c, h1, h2⟩ := HX.out
        exact ⟨A, c, congrArg Ending.returned h1, h2⟩
      · rw [hre] at hemp
        have hrd : Rd (fun b => w.heap.size ≤ b) w2 (some ⟨w.heap.size, 0, none⟩) (ps.map fun p => sv (p ++ [58])) := by
          intro h
          refine ⟨_, rfl, Nat.le_refl _, HB.out.lt, fun j u hu => ?_⟩
          have hj := (List.getElem?_eq_some_iff.1 hu).1
          have : (⟨w.heap.size, 0, none⟩ : Addr).add j = ⟨w.heap.size, j, none⟩ := by unfold Addr.add; split <;> simp_all
          rw [this, HB.out.cell j, ← hu]
          simp at hj
          simp [List.getElem?_append, hj]
        have HRD := Lib.hid hrd
        have HC := Lib.hid (fun c => sContainsFunc_any (some ⟨w.heap.size, 0, none⟩) n c ps w2 HNP.out.symm (by omega) (fun p hp => Nat.le_trans (HMEM.out p hp) hl) (hrd.mono fun _ _ _ => trivial))
        clear hrd
        go_wp2_with fail
        refine (HC.out _).mono ?_
        rintro e w3 ⟨rfl, h3⟩
        have HM3 := Lib.hid h3
        clear h3
        rcases hall : ps.all nmLower with _ | _
        · have HX := Lib.hid (HNO.out (by rw [HKW.out, hall]; simp))
          go_wp2_with fail
          go_ret
          refine ⟨none, 0, ?_, ?_, HM.out.trans HM3.out⟩
          · rw [HX.out]; rfl
          · rw [HX.out]; exact Rd.nil _ _ _
        · have hkw : nmKw l = true := by
            rw [HKW.out, hre, hall]
            simp
            omega
          have HX := Lib.hid (show kwL l = ps.map (· ++ [58]) by rw [HK.out, hkw]; rfl)
          clear hkw
          go_wp2_with fail
          go_ret
          refine ⟨some ⟨w.heap.size, 0, none⟩, n + 1, ?_, ?_, HM.out.trans HM3.out⟩
          · rw [HX.out, List.length_map, ← HNP.out]
            rfl
          · rw [HX.out, List.map_map]
            exact HRD.out.keep0 HM3.out

set_option maxHeartbeats 1600000 in
set_option maxRecDepth 100000 in
theorem nmKind_any (l : List UInt8) (hl : l.length ≤ 5000) (w : World) : Calls Tryz.prog 90 #[.string (str l)] w fun e w' => e = .returned (.int .i64 (nmKind l)) ∧ Mod Nil w w' := by
  have HL := Lib.hid (fun w => nmLower_any l (by omega) w)
  have HB := Lib.hid (fun w => nmBin_any l (by omega) w)
  have HK := Lib.hid (fun w => nmKeywords_any l hl w)
  have HD := Lib.hid (show nmKind l = if nmLower l then 1 else if nmBin l then 2 else if nmKw l then 3 else 0 from rfl)
  go_enter Tryz.func90, Tryz.ntmps90
  go_wp2_with fail
  refine (HL.out _).mono ?_
  rintro e w2 ⟨rfl, h2⟩
  have H2 := Lib.hid h2
  clear h2
  rcases h1 : nmLower l with _ | _
  · go_wp2_with fail
    refine (HB.out _).mono ?_
    rintro e w3 ⟨rfl, h3⟩
    have H3 := Lib.hid (H2.out.trans h3)
    clear h3
    rcases h2 : nmBin l with _ | _
    · go_wp2_with fail
      refine (HK.out _).mono ?_
      rintro e w4 ⟨A, c, rfl, _, h4⟩
      have H4 := Lib.hid (H3.out.trans h4)
      clear h4
      rcases h3 : nmKw l with _ | _
      · have hkl : (kwL l).length = 0 := by unfold kwL; rw [h3]; rfl
        rw [hkl]
        go_wp2_with fail
        go_ret
        exact ⟨ret_int (by rw [HD.out, h1, h2, h3]; rfl), H4.out⟩
      · have hkl : 0 < (kwL l).length := by
          unfold kwL
          rw [h3]
          unfold nmKw at h3
          simp at h3 ⊢
          have := h3.1.1.2
          omega
        generalize (kwL l).length = kn at hkl ⊢
        go_wp2_with fail
        go_ret
        exact ⟨ret_int (by rw [HD.out, h1, h2, h3]; rfl), H4.out⟩
    · go_wp2_with fail
      go_ret
      exact ⟨ret_int (by rw [HD.out, h1, h2]; rfl), H3.out⟩
  · go_wp2_with fail
    go_ret
    exact ⟨ret_int (by rw [HD.out, h1]; rfl), H2.out⟩
end Go.Proofs.YtpjpmlhnhcmacaaGreatDoor
