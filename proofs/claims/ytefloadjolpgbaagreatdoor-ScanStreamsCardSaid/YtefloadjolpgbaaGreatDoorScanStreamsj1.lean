/- Parts of the proof of ScanStreams, joined: NmL NmS ScS ScB ScT. -/
import Derived.Test.YtefloadjolpgbaaGreatDoorScanStreamsj0
import Derived.Shelf.Strings.Builder1
namespace Go.Proofs.YtefloadjolpgbaaGreatDoor
open Go.RowKit

theorem trimSuffix_colon (p : List UInt8) : Lib.trimSuffix (p ++ [58]) [58] = p := by
  unfold Lib.trimSuffix Lib.hasSuffix
  rw [if_pos (by simp [List.isSuffixOf_iff_suffix])]
  simp

set_option maxHeartbeats 400000 in
set_option maxRecDepth 100000 in
theorem kwFn_any (p : List UInt8) (hp : p.length ≤ 2000000) (w : World) : Calls Tryz.prog 65 #[.string (str (p ++ [58]))] w fun e w' => e = .returned (.bool (!nmLower p)) ∧ Mod Nil w w' := by
  have hsz := str_size (p ++ [58])
  rw [List.length_append, List.length_singleton] at hsz
  go_enter Tryz.func65, Tryz.ntmps65
  go_wp2_with fail
  refine (Tryz.strings_TrimSuffix (str (p ++ [58])) (str [58]) _ (by omega)).mono ?_
  rintro e w2 ⟨rfl, rfl⟩
  rw [show (⟨(Lib.trimSuffix (str (p ++ [58])).data.toList (str [58]).data.toList).toArray⟩ : ByteArray) = str p from congrArg str (trimSuffix_colon p)]
  go_wp2_with fail
  refine (nmLower_any p (by omega) _).mono ?_
  rintro e w3 ⟨rfl, hm⟩
  have HM := Lib.hid hm
  clear hm
  go_wp2_with fail
  go_ret
  exact ⟨rfl, HM.out⟩

set_option maxHeartbeats 1600000 in
set_option maxRecDepth 100000 in
theorem sIndexFunc_any (A : Option Addr) (n cap : Nat) (ps : List (List UInt8)) (w : World) (hn : ps.length = n) (hbig : n ≤ 2000000) (hps : ∀ p ∈ ps, p.length ≤ 2000000)
    (hr : Rd All w A (ps.map fun p => sv (p ++ [58]))) :
    Calls Tryz.prog 78 #[.slice A n cap, fnv 65] w fun r w' => ∃ i : Int, r = .returned (.int .i64 i) ∧ (0 ≤ i ↔ ps.all nmLower = false) ∧ Mod Nil w w' := by
  have HR := Lib.hid hr
  have HPS := Lib.hid hps
  clear hr hps
  unfold fnv
  go_enter Tryz.func78, Tryz.ntmps78
  go_wp2_with fail
  go_loopw [8] (fun i wr => ∃ (k : Nat), k ≤ n ∧ i = .int .i64 k ∧ (∀ j p, j < k → ps[j]? = some p → nmLower p = true) ∧ Mod Nil w wr) (fun v _ => n - (intOf v).toNat)
  case atStart => exact ⟨0, Nat.zero_le _, rfl, fun j i hj => absurd hj (by omega), Mod.refl _ _⟩
  case round =>
    obtain ⟨k, hk, rfl, hno, hm⟩ := hrel
    have HNO := Lib.hid hno
    have HM := Lib.hid hm
    clear hno hm
    by_cases hlt : k < n
    · obtain ⟨p, hp⟩ : ∃ p, ps[k]? = some p := ⟨_, List.getElem?_eq_getElem (by omega)⟩
      have hcell : (ps.map fun p => sv (p ++ [58]))[k]? = some (sv (p ++ [58])) := by rw [List.getElem?_map, hp]; rfl
      obtain ⟨ad, rfl, _, hadl, hcell'⟩ := (HR.out.keep0 HM.out).at_ hcell
      have hpl := HPS.out p (List.mem_of_getElem? hp)
      have hbad : nmLower p = false → ps.all nmLower = false := fun h => by
        rw [List.all_eq_false]
        exact ⟨p, List.mem_of_getElem? hp, by simp [h]⟩
      have hgood : nmLower p = true → ∀ j q, j < k + 1 → ps[j]? = some q → nmLower q = true := fun h j q hj hq => by
        rcases Nat.lt_or_ge j k with h1 | h1
        · exact HNO.out j q h1 hq
        · have : j = k := by omega
          subst this
          rw [hp] at hq
          cases hq
          exact h
      have HB := Lib.hid hbad
      have HG := Lib.hid hgood
      simp only [sv] at hcell'
      clear hbad hgood hcell hp hn
      go_wp2_with fail
      refine (kwFn_any p hpl _).mono ?_
      rintro e w2 ⟨rfl, hm⟩
      have HM2 := Lib.hid (HM.out.trans hm)
      clear hm
      rcases hb : nmLower p with _ | _
      · have HX := Lib.hid (HB.out hb)
        clear hb
        go_wp2_with fail
        go_ret
        exact ⟨_, rfl, ⟨fun _ => HX.out, fun _ => by omega⟩, HM2.out⟩
      · have HX := Lib.hid (HG.out hb)
        clear hb
        go_wp2_with fail
        refine ⟨⟨k + 1, hlt, rfl, HX.out, HM2.out⟩, ?_⟩
        simp [intOf]
        omega
    · have HX := Lib.hid (show ps.all nmLower = true by
        rw [List.all_eq_true]
        intro p hp
        obtain ⟨j, hj⟩ := List.getElem?_of_mem hp
        have := (List.getElem?_eq_some_iff.1 hj).1
        exact HNO.out j p (by omega) hj)
      go_wp2_with fail
      go_ret
      exact ⟨_, rfl, by rw [HX.out]; simp, HM.out⟩

set_option maxHeartbeats 400000 in
set_option maxRecDepth 100000 in
theorem sContainsFunc_any (A : Option Addr) (n cap : Nat) (ps : List (List UInt8)) (w : World) (hn : ps.length = n) (hbig : n ≤ 2000000) (hps : ∀ p ∈ ps, p.length ≤ 2000000)
    (hr : Rd All w A (ps.map fun p => sv (p ++ [58]))) :
    Calls Tryz.prog 64 #[.slice A n cap, fnv 65] w fun r w' => r = .returned (.bool (!ps.all nmLower)) ∧ Mod Nil w w' := by
  have HI := Lib.hid (sIndexFunc_any A n cap ps w hn hbig hps hr)
  unfold fnv at HI ⊢
  clear hr hps
  go_enter Tryz.func64, Tryz.ntmps64
  go_wp2_with fail
  refine HI.out.mono ?_
  rintro e w2 ⟨i, rfl, hi, hm⟩
  have HM := Lib.hid hm
  have HIF := Lib.hid hi
  clear hm hi
  go_wp2_with fail
  go_ret
  refine ⟨ret_bool ?_, HM.out⟩
  have := HIF.out
  rw [Bool.eq_iff_iff]
  simpa using this

/-- The parts of a keyword selector. -/
def kwL (l : List UInt8) : List (List UInt8) := if nmKw l then (splitC l).1.map (· ++ [58]) else []

set_option maxHeartbeats 1600000 in
set_option maxRecDepth 100000 in
theorem nmSplit_any (l : List UInt8) (hl : l.length ≤ 2000000) (w : World) :
    Calls Tryz.prog 63 #[.string (str l), .string ⟨#[58]⟩] w fun e w' => e = .returned (.slice (some ⟨w.heap.size, 0, none⟩) ((splitC l).1.length + 1) ((splitC l).1.length + 1)) ∧
      Blk w' w.heap.size 9 ((splitC l).1.map (fun p => sv (p ++ [58])) ++ [sv (splitC l).2]).toArray ∧ Mod Nil w w' := by
  have HI := Lib.hid (gsplit_any l hl w)
  go_enter Tryz.func63, Tryz.ntmps63
  go_wp2_with fail
  refine HI.out.mono ?_
  rintro e w2 ⟨rfl, h1, h2⟩
  have H1 := Lib.hid h1
  have H2 := Lib.hid h2
  clear h1 h2
  go_wp2_with fail
  go_ret
  exact ⟨rfl, H1.out, H2.out⟩

theorem splitC_mem : ∀ {l p : List UInt8}, p ∈ (splitC l).1 → p.length ≤ l.length := by
  intro l p hp
  have h1 := splitC_join l
  have h2 : (p ++ [58]).length ≤ ((splitC l).1.flatMap (· ++ [58])).length := by
    clear h1
    generalize (splitC l).1 = ps at hp
    induction ps with
    | nil => cases hp
    | cons q qs ih =>
      simp only [List.flatMap_cons, List.length_append] at ih ⊢
      rcases List.mem_cons.1 hp with rfl | h
      · omega
      · have := ih h
        omega
  have h3 := congrArg List.length h1
  simp only [List.length_append] at h2 h3
  omega

set_option maxHeartbeats 1600000 in
set_option maxRecDepth 100000 in
theorem nmKeywords_any (l : List UInt8) (hl : l.length ≤ 2000000) (w : World) :
    Calls Tryz.prog 56 #[.string (str l)] w fun e w' => ∃ A c, e = .returned (.slice A (kwL l).length c) ∧ Rd (fun b => w.heap.size ≤ b) w' A ((kwL l).map sv) ∧ Mod Nil w w' := by
  have HI := Lib.hid (nmSplit_any l hl w)
  have hlen := splitC_len l
  have HMEM := Lib.hid (fun p hp => splitC_mem (l := l) (p := p) hp)
  have HK : kwL l = if nmKw l then (splitC l).1.map (· ++ [58]) else [] := rfl
  have HKW : nmKw l = ((splitC l).2.isEmpty && decide (1 ≤ (splitC l).1.length) && decide ((splitC l).1.length ≤ 10) && (splitC l).1.all nmLower) := rfl
  obtain ⟨ps, hps⟩ : ∃ ps, ps = (splitC l).1 := ⟨_, rfl⟩
  obtain ⟨rest, hrest⟩ : ∃ rest, rest = (splitC l).2 := ⟨_, rfl⟩
  rw [← hps, ← hrest] at HKW
  rw [← hps] at HK hlen HMEM
  rw [← hps, ← hrest] at HI
  obtain ⟨n, hn⟩ : ∃ n, n = ps.length := ⟨_, rfl⟩
  rw [← hn] at HI HKW hlen
  have HNP := Lib.hid hn
  have HK := Lib.hid HK
  have HKW := Lib.hid HKW
  have hno : nmKw l = false → kwL l = [] := fun h => by rw [HK.out, h]; rfl
  have HNO := Lib.hid hno
  clear hps hrest hn hno
  go_enter Tryz.func56, Tryz.ntmps56
  go_wp2_with fail
  refine HI.out.mono ?_
  rintro e w2 ⟨rfl, h1, h2⟩
  have hc := h1.cell n
  have hcl : w2.cell? ⟨w.heap.size, n, none⟩ = some (.string (str rest)) := by
    rw [hc, HNP.out]
    simp [sv]
  have HB := Lib.hid h1
  have HM := Lib.hid h2
  have hemp : (str rest).toList.isEmpty = rest.isEmpty := by rw [str_toList]
  clear h1 h2 hc
  have hnil : kwL l = [] → ∃ A c, Value.slice none 0 0 = .slice A (kwL l).length c ∧ Rd (fun b => w.heap.size ≤ b) w2 A ((kwL l).map sv) ∧ Mod Nil w w2 := fun h => by
    rw [h]
    exact ⟨none, 0, rfl, Rd.nil _ _ _, HM.out⟩
  have HNIL := Lib.hid hnil
  clear hnil
  by_cases h0 : n = 0
  · have HX := Lib.hid (HNIL.out (HNO.out (by rw [HKW.out, h0]; simp)))
    have hi : ((n : Int) + 1 < 2) := by omega
    go_wp2_with fail
    go_ret
    obtain ⟨A, c, h1, h2⟩ := HX.out
    exact ⟨A, c, congrArg Ending.returned h1, h2⟩
  · have hi : ¬ ((n : Int) + 1 < 2) := by omega
    by_cases h10 : 10 < n
    · have HX := Lib.hid (HNIL.out (HNO.out (by rw [HKW.out]; have : decide (n ≤ 10) = false := by simp; omega
                                                rw [this]; simp)))
      have hi2 : ((n : Int) + 1 > 11) := by omega
      go_wp2_with fail
      go_ret
      obtain ⟨A, c, h1, h2⟩ := HX.out
      exact ⟨A, c, congrArg Ending.returned h1, h2⟩
    · have hi2 : ¬ ((n : Int) + 1 > 11) := by omega
      rcases hre : rest.isEmpty with _ | _
      · have HX := Lib.hid (HNIL.out (HNO.out (by rw [HKW.out, hre]; rfl)))
        rw [hre] at hemp
        go_wp2_with fail
        go_ret
        obtain ⟨A, c, h1, h2⟩ := HX.out
        exact ⟨A, c, congrArg Ending.returned h1, h2⟩
      · rw [hre] at hemp
        have hrd : Rd (fun b => w.heap.size ≤ b) w2 (some ⟨w.heap.size, 0, none⟩) (ps.map fun p => sv (p ++ [58])) := by
          intro h
          refine ⟨_, rfl, Nat.le_refl _, HB.out.lt, fun j u hu => ?_⟩
          have hj := (List.getElem?_eq_some_iff.1 hu).1
          have : (⟨w.heap.size, 0, none⟩ : Addr).add j = ⟨w.heap.size, j, none⟩ := by unfold Addr.add; split <;> simp_all
          rw [this, HB.out.cell j, ← hu]
          simp at hj
          simp [List.getElem?_append, hj]
        have HRD := Lib.hid hrd
        have HC := Lib.hid (fun c => sContainsFunc_any (some ⟨w.heap.size, 0, none⟩) n c ps w2 HNP.out.symm (by omega) (fun p hp => Nat.le_trans (HMEM.out p hp) hl) (hrd.mono fun _ _ _ => trivial))
        clear hrd
        go_wp2_with fail
        refine (HC.out _).mono ?_
        rintro e w3 ⟨rfl, h3⟩
        have HM3 := Lib.hid h3
        clear h3
        rcases hall : ps.all nmLower with _ | _
        · have HX := Lib.hid (HNO.out (by rw [HKW.out, hall]; simp))
          go_wp2_with fail
          go_ret
          refine ⟨none, 0, ?_, ?_, HM.out.trans HM3.out⟩
          · rw [HX.out]; rfl
          · rw [HX.out]; exact Rd.nil _ _ _
        · have hkw : nmKw l = true := by
            rw [HKW.out, hre, hall]
            simp
            omega
          have HX := Lib.hid (show kwL l = ps.map (· ++ [58]) by rw [HK.out, hkw]; rfl)
          clear hkw
          go_wp2_with fail
          go_ret
          refine ⟨some ⟨w.heap.size, 0, none⟩, n + 1, ?_, ?_, HM.out.trans HM3.out⟩
          · rw [HX.out, List.length_map, ← HNP.out]
            rfl
          · rw [HX.out, List.map_map]
            exact HRD.out.keep0 HM3.out

set_option maxHeartbeats 1600000 in
set_option maxRecDepth 100000 in
theorem nmKind_any (l : List UInt8) (hl : l.length ≤ 2000000) (w : World) : Calls Tryz.prog 44 #[.string (str l)] w fun e w' => e = .returned (.int .i64 (nmKind l)) ∧ Mod Nil w w' := by
  have HL := Lib.hid (fun w => nmLower_any l (by omega) w)
  have HB := Lib.hid (fun w => nmBin_any l (by omega) w)
  have HK := Lib.hid (fun w => nmKeywords_any l hl w)
  have HD := Lib.hid (show nmKind l = if nmLower l then 1 else if nmBin l then 2 else if nmKw l then 3 else 0 from rfl)
  go_enter Tryz.func44, Tryz.ntmps44
  go_wp2_with fail
  refine (HL.out _).mono ?_
  rintro e w2 ⟨rfl, h2⟩
  have H2 := Lib.hid h2
  clear h2
  rcases h1 : nmLower l with _ | _
  · go_wp2_with fail
    refine (HB.out _).mono ?_
    rintro e w3 ⟨rfl, h3⟩
    have H3 := Lib.hid (H2.out.trans h3)
    clear h3
    rcases h2 : nmBin l with _ | _
    · go_wp2_with fail
      refine (HK.out _).mono ?_
      rintro e w4 ⟨A, c, rfl, _, h4⟩
      have H4 := Lib.hid (H3.out.trans h4)
      clear h4
      rcases h3 : nmKw l with _ | _
      · have hkl : (kwL l).length = 0 := by unfold kwL; rw [h3]; rfl
        rw [hkl]
        go_wp2_with fail
        go_ret
        exact ⟨ret_int (by rw [HD.out, h1, h2, h3]; rfl), H4.out⟩
      · have hkl : 0 < (kwL l).length := by
          unfold kwL
          rw [h3]
          unfold nmKw at h3
          simp at h3 ⊢
          have := h3.1.1.2
          omega
        generalize (kwL l).length = kn at hkl ⊢
        go_wp2_with fail
        go_ret
        exact ⟨ret_int (by rw [HD.out, h1, h2, h3]; rfl), H4.out⟩
    · go_wp2_with fail
      go_ret
      exact ⟨ret_int (by rw [HD.out, h1, h2]; rfl), H3.out⟩
  · go_wp2_with fail
    go_ret
    exact ⟨ret_int (by rw [HD.out, h1]; rfl), H2.out⟩
end Go.Proofs.YtefloadjolpgbaaGreatDoor

namespace Go.Proofs.YtefloadjolpgbaaGreatDoor
open Go.RowKit

/-- A selector of length k does not end within a word. -/
def wholeB (l : List UInt8) (k : Nat) : Bool := match l with
  | [] => true
  | c :: _ => !letB c || l[k - 1]? == some 58 || !(match l[k]? with | some d => wrdB d | none => false)
def candB (l : List UInt8) (k : Nat) : Bool := decide (0 < nmKind (l.take k)) && decide (k ≤ l.length) && wholeB l k
def symTo (l : List UInt8) : Nat → Nat
  | 0 => 0
  | k + 1 => if candB l (k + 1) then k + 1 else symTo l k
/-- The longest's length; 0: there is none. -/
def symL (l : List UInt8) : Nat := symTo l l.length

theorem symTo_cand (l : List UInt8) : ∀ n, symTo l n = 0 ∨ candB l (symTo l n) = true
  | 0 => .inl rfl
  | n + 1 => by
    rw [symTo]
    split
    · rename_i h
      exact .inr h
    · exact symTo_cand l n
theorem symTo_most (l : List UInt8) : ∀ n j, j ≤ n → candB l j = true → j ≤ symTo l n
  | 0, j, hj, _ => by omega
  | n + 1, j, hj, hc => by
    rw [symTo]
    split
    · exact hj
    · rename_i h
      rcases Nat.lt_or_ge j (n + 1) with h1 | h1
      · exact symTo_most l n j (by omega) hc
      · have : j = n + 1 := by omega
        subst this
        exact absurd hc h
theorem symTo_le (l : List UInt8) : ∀ n, symTo l n ≤ n
  | 0 => Nat.le_refl _
  | n + 1 => by
    rw [symTo]
    split
    · exact Nat.le_refl _
    · have := symTo_le l n
      omega
theorem cand_le {l : List UInt8} {k : Nat} (h : candB l k = true) : k ≤ l.length := by
  unfold candB at h
  simp only [Bool.and_eq_true, decide_eq_true_eq] at h
  exact h.1.2
theorem cand_kind {l : List UInt8} {k : Nat} (h : candB l k = true) : 0 < nmKind (l.take k) := by
  unfold candB at h
  simp only [Bool.and_eq_true, decide_eq_true_eq] at h
  exact h.1.1
theorem symL_of {l : List UInt8} {k : Nat} (h1 : k = 0 ∨ candB l k = true) (h2 : ∀ j, candB l j = true → j ≤ k) : symL l = k := by
  have a := symTo_cand l l.length
  have b := symTo_most l l.length
  unfold symL
  have h3 : symTo l l.length ≤ k := by
    rcases a with a | a
    · omega
    · exact h2 _ a
  have h4 : k ≤ symTo l l.length := by
    rcases h1 with h1 | h1
    · omega
    · exact b k (cand_le h1) h1
  omega

theorem kind_pos {m : List UInt8} (h : 0 < nmKind m) : nmLower m = true ∨ nmBin m = true ∨ nmKw m = true := by
  unfold nmKind at h
  split at h
  · rename_i h1; exact .inl h1
  · split at h
    · rename_i h1; exact .inr (.inl h1)
    · split at h
      · rename_i h1; exact .inr (.inr h1)
      · omega
theorem kind_of_lower {m : List UInt8} (h : nmLower m = true) : nmKind m = 1 := by unfold nmKind; rw [if_pos h]
theorem kind_of_bin {m : List UInt8} (h : nmBin m = true) : 0 < nmKind m := by rcases h1 : nmLower m with _ | _ <;> simp [nmKind, h1, h]
theorem kind_of_kw {m : List UInt8} (h : nmKw m = true) : 0 < nmKind m := by rcases h1 : nmLower m with _ | _ <;> rcases h2 : nmBin m with _ | _ <;> simp [nmKind, h1, h2, h]

theorem small_let {c : UInt8} (h : smallB c = true) : letB c = true := by unfold letB; rw [h]; rfl
theorem bin_let {c : UInt8} (h : binB c = true) : letB c = false := by
  have : ∀ c ∈ binL, letB c = false := by decide
  exact this c (by unfold binB at h; simpa using h)
theorem let_bin {c : UInt8} (h : letB c = true) : binB c = false := by
  rcases hb : binB c with _ | _
  · rfl
  · rw [bin_let hb] at h
    cases h
theorem let_wrd {c : UInt8} (h : letB c = true) : wrdB c = true := by unfold wrdB; rw [h]; rfl
theorem let_colon : letB 58 = false := by decide
theorem lower_head {m : List UInt8} (h : nmLower m = true) : ∃ c r, m = c :: r ∧ letB c = true := by
  unfold nmLower at h
  cases m with
  | nil => simp at h
  | cons c r =>
    simp only [Bool.and_eq_true] at h
    exact ⟨c, r, rfl, small_let h.2⟩
theorem bin_all {m : List UInt8} (h : nmBin m = true) : (m.length = 1 ∨ m.length = 2) ∧ m.all binB = true := by
  unfold nmBin at h
  simpa only [Bool.and_eq_true, Bool.or_eq_true, decide_eq_true_eq] using h
theorem kw_parts {m : List UInt8} (h : nmKw m = true) : (splitC m).2 = [] ∧ 1 ≤ (splitC m).1.length ∧ (splitC m).1.length ≤ 10 ∧ (∀ p ∈ (splitC m).1, nmLower p = true) := by
  unfold nmKw at h
  simp only [Bool.and_eq_true, decide_eq_true_eq, List.isEmpty_iff, List.all_eq_true] at h
  exact ⟨h.1.1.1, h.1.1.2, h.1.2, h.2⟩
theorem kw_of {m : List UInt8} (h1 : (splitC m).2 = []) (h2 : 1 ≤ (splitC m).1.length) (h3 : (splitC m).1.length ≤ 10) (h4 : ∀ p ∈ (splitC m).1, nmLower p = true) : nmKw m = true := by
  unfold nmKw
  simp only [Bool.and_eq_true, decide_eq_true_eq, List.isEmpty_iff, List.all_eq_true]
  exact ⟨⟨⟨h1, h2⟩, h3⟩, h4⟩
theorem kw_join {m : List UInt8} (h : nmKw m = true) : m = (splitC m).1.flatMap (· ++ [58]) := by
  have := splitC_join m
  rw [(kw_parts h).1, List.append_nil] at this
  exact this.symm
theorem kw_chars {m : List UInt8} (h : nmKw m = true) {c : UInt8} (hc : c ∈ m) : wrdB c = true ∨ c = 58 := by
  rw [kw_join h] at hc
  obtain ⟨p, hp, hcp⟩ := List.mem_flatMap.1 hc
  rcases List.mem_append.1 hcp with h1 | h1
  · exact .inl (List.all_eq_true.1 (nmLower_word ((kw_parts h).2.2.2 p hp)).1 c h1)
  · exact .inr (by simpa using h1)
theorem kw_end {m : List UInt8} (h : nmKw m = true) : ∃ a, m = a ++ [58] := by
  have h1 := kw_join h
  have h2 := (kw_parts h).2.1
  rcases List.eq_nil_or_concat (splitC m).1 with h0 | ⟨ps, p, h0⟩
  · rw [h0] at h2
    simp at h2
  · rw [h0] at h1
    rw [h1]
    exact ⟨ps.flatMap (· ++ [58]) ++ p, by simp⟩
theorem kw_prefix {a b : List UInt8} (h : nmKw (a ++ 58 :: b) = true) : nmKw (a ++ [58]) = true := by
  obtain ⟨h1, h2, h3, h4⟩ := kw_parts h
  have e1 := splitC_append a b
  have e2 : splitC (a ++ [58]) = ((splitC a).1 ++ [(splitC a).2], []) := by simpa [splitC] using splitC_append a []
  rw [e1] at h3 h4
  simp only [List.length_append, List.length_cons] at h3
  refine kw_of (by rw [e2]) (by rw [e2]; simp) (by rw [e2]; simp; omega) fun p hp => ?_
  rw [e2] at hp
  refine h4 p ?_
  simp only [List.mem_append, List.mem_cons] at hp ⊢
  rcases hp with hp | hp
  · exact .inl hp
  · exact .inr (.inl (by simpa using hp))
theorem kw_head {m : List UInt8} (h : nmKw m = true) : ∃ c r, m = c :: r ∧ letB c = true := by
  obtain ⟨_, h2, _, h4⟩ := kw_parts h
  obtain ⟨p, r', h5, _, h7⟩ := split_step (rest := m) (by intro h0; rw [h0] at h2; simp at h2)
  obtain ⟨c, r, rfl, hc⟩ := lower_head (h4 p (by rw [h7]; simp))
  exact ⟨c, r ++ 58 :: r', by rw [h5]; rfl, hc⟩
theorem kw_next {a b : List UInt8} (h : nmKw (a ++ 58 :: b) = true) (hb : b ≠ []) : ∃ c r, b = c :: r ∧ letB c = true := by
  obtain ⟨h1, _, _, h4⟩ := kw_parts h
  rw [splitC_append] at h1 h4
  have h0 : (splitC b).1 ≠ [] := by
    intro h0
    have := split_end h0
    simp only at h1
    rw [h1] at this
    exact hb this.symm
  obtain ⟨p, r', h5, _, h7⟩ := split_step h0
  obtain ⟨c, r, rfl, hc⟩ := lower_head (h4 p (by rw [h7]; simp))
  exact ⟨c, r ++ 58 :: r', by rw [h5]; rfl, hc⟩
/-- What holds a colon is of keywords, if anything. -/
theorem kind_colon {m : List UInt8} (hm : (58 : UInt8) ∈ m) (h : 0 < nmKind m) : nmKw m = true := by
  rcases kind_pos h with h | h | h
  · have := List.all_eq_true.1 (nmLower_word h).1 58 hm
    rw [wrdB_colon] at this
    cases this
  · have := List.all_eq_true.1 (bin_all h).2 58 hm
    rw [binB_colon] at this
    cases this
  · exact h

/-- A head that is neither letter nor of a binary selector. -/
theorem sym_none {l : List UInt8} (h1 : wrdL l = 0) (h2 : runL binB l = 0) : symL l = 0 := by
  refine symL_of (.inl rfl) fun j hj => ?_
  have hk := cand_kind hj
  rcases Nat.eq_zero_or_pos j with h0 | h0
  · omega
  exfalso
  cases l with
  | nil => simp [nmKind, nmLower, nmIs, nmBin, nmKw, splitC] at hk
  | cons c r =>
    have hc : letB c = false := by
      rcases hb : letB c with _ | _
      · rfl
      · rw [wrdL, hb] at h1
        simp [runL, let_wrd hb] at h1
    have hb : binB c = false := by
      rcases hb : binB c with _ | _
      · rfl
      · rw [runL, if_pos hb] at h2
        omega
    obtain ⟨j, rfl⟩ : ∃ i, j = i + 1 := ⟨j - 1, by omega⟩
    rw [List.take_succ_cons] at hk
    rcases kind_pos hk with h | h | h
    · obtain ⟨d, q, h3, h4⟩ := lower_head h
      injection h3 with h3 _
      rw [← h3, hc] at h4
      cases h4
    · have := List.all_eq_true.1 (bin_all h).2 c (by simp)
      rw [hb] at this
      cases this
    · obtain ⟨d, q, h3, h4⟩ := kw_head h
      injection h3 with h3 _
      rw [← h3, hc] at h4
      cases h4
theorem runL_take (p : UInt8 → Bool) : ∀ (l : List UInt8) (n : Nat), n ≤ runL p l → (l.take n).all p = true
  | [], n, _ => by simp
  | c :: r, 0, _ => by simp
  | c :: r, n + 1, h => by
    rw [runL] at h
    split at h
    · rename_i hc
      rw [List.take_succ_cons, List.all_cons, hc, Bool.true_and]
      exact runL_take p r n (by omega)
    · omega
theorem runL_ge (p : UInt8 → Bool) : ∀ (l : List UInt8) (n : Nat), n ≤ l.length → (l.take n).all p = true → n ≤ runL p l
  | [], n, h, _ => by
    simp at h
    rw [h]
    exact Nat.zero_le _
  | c :: r, 0, _, _ => Nat.zero_le _
  | c :: r, n + 1, h, h2 => by
    rw [List.take_succ_cons, List.all_cons, Bool.and_eq_true] at h2
    rw [runL, if_pos h2.1]
    have := runL_ge p r n (by simpa using h) h2.2
    omega
theorem sym_bin {l : List UInt8} (h : 0 < runL binB l) : symL l = min 2 (runL binB l) := by
  have hle := runL_le binB l
  cases l with
  | nil => simp [runL] at h
  | cons c r =>
    have hb : binB c = true := by
      rcases hb : binB c with _ | _
      · rw [runL, if_neg (by simp [hb])] at h
        omega
      · rfl
    have hc := bin_let hb
    refine symL_of (.inr ?_) fun j hj => ?_
    · unfold candB
      simp only [Bool.and_eq_true, decide_eq_true_eq]
      refine ⟨⟨kind_of_bin ?_, by omega⟩, ?_⟩
      · unfold nmBin
        simp only [Bool.and_eq_true, Bool.or_eq_true, decide_eq_true_eq]
        refine ⟨?_, runL_take _ _ _ (Nat.min_le_right _ _)⟩
        rw [List.length_take]
        omega
      · show (!letB c || _ || _) = true
        rw [hc]
        rfl
    · have hk := cand_kind hj
      have hjl := cand_le hj
      rcases Nat.eq_zero_or_pos j with h0 | h0
      · omega
      obtain ⟨j, rfl⟩ : ∃ i, j = i + 1 := ⟨j - 1, by omega⟩
      rcases kind_pos hk with h | h | h
      · rw [List.take_succ_cons] at h
        obtain ⟨d, q, h3, h4⟩ := lower_head h
        injection h3 with h3 _
        rw [← h3, hc] at h4
        cases h4
      · obtain ⟨h5, h6⟩ := bin_all h
        have := runL_ge binB (c :: r) (j + 1) hjl h6
        rw [List.length_take] at h5
        omega
      · rw [List.take_succ_cons] at h
        obtain ⟨d, q, h3, h4⟩ := kw_head h
        injection h3 with h3 _
        rw [← h3, hc] at h4
        cases h4

/-! ### the loop that looks for keywords -/
/-- Where the loop stands: at its beginning, or behind keywords. -/
def SymSt (l : List UInt8) (a best : Nat) : Prop := (a = 0 ∧ best = 0) ∨ (0 < a ∧ best = a ∧ a ≤ l.length ∧ nmKw (l.take a) = true)

theorem wrdL_run {d : List UInt8} (h : 0 < wrdL d) : wrdL d = runL wrdB d ∧ ∃ c r, d = c :: r ∧ letB c = true := by
  cases d with
  | nil => simp [wrdL] at h
  | cons c r =>
    rcases hc : letB c with _ | _
    · rw [wrdL, hc] at h
      simp at h
    · exact ⟨by rw [wrdL, hc]; rfl, c, r, rfl, hc⟩
theorem take_split (l : List UInt8) {a j : Nat} (h : a ≤ j) : l.take j = l.take a ++ (l.drop a).take (j - a) := by
  rw [← List.take_append_drop a (l.take j), List.take_take, Nat.min_eq_left h, List.drop_take]
theorem not_bin {l : List UInt8} {c : UInt8} {r : List UInt8} (hl : l = c :: r) (hc : letB c = true) (j : Nat) : nmBin (l.take j) = false := by
  rw [Bool.eq_false_iff]
  intro h
  obtain ⟨h1, h2⟩ := bin_all h
  subst hl
  cases j with
  | zero => simp at h1
  | succ j =>
    have := List.all_eq_true.1 h2 c (by simp)
    rw [let_bin hc] at this
    cases this
theorem sym_head {l : List UInt8} {a best : Nat} (h : SymSt l a best) (hn : 0 < wrdL (l.drop a)) : ∃ c r, l = c :: r ∧ letB c = true := by
  rcases h with ⟨rfl, _⟩ | ⟨h0, _, _, hk⟩
  · exact (wrdL_run hn).2
  · obtain ⟨c, r, h1, h2⟩ := kw_head hk
    cases l with
    | nil => simp at h1
    | cons d q =>
      obtain ⟨a, rfl⟩ : ∃ i, a = i + 1 := ⟨a - 1, by omega⟩
      rw [List.take_succ_cons] at h1
      injection h1 with h1 _
      exact ⟨d, q, rfl, by rw [h1]; exact h2⟩
theorem colon_mem {l : List UInt8} {a j : Nat} (hk : nmKw (l.take a) = true) (h : a ≤ j) : (58 : UInt8) ∈ l.take j := by
  obtain ⟨m, hm⟩ := kw_end hk
  rw [take_split l h, hm]
  simp
theorem not_lower {l : List UInt8} {a j : Nat} (hk : nmKw (l.take a) = true) (h : a ≤ j) : nmLower (l.take j) = false := by
  rw [Bool.eq_false_iff]
  intro hl
  have := List.all_eq_true.1 (nmLower_word hl).1 58 (colon_mem hk h)
  rw [wrdB_colon] at this
  cases this
/-- Within a word nothing ends with a colon. -/
theorem not_kw {l : List UInt8} {a j : Nat} (h : a < j) (hj : j ≤ a + runL wrdB (l.drop a)) (hjl : j ≤ l.length) : nmKw (l.take j) = false := by
  rw [Bool.eq_false_iff]
  intro hk
  obtain ⟨m, hm⟩ := kw_end hk
  have h1 := runL_take wrdB (l.drop a) (j - a) (by omega)
  rw [take_split l (Nat.le_of_lt h)] at hm
  have hne : (l.drop a).take (j - a) ≠ [] := by
    intro h0
    have := congrArg List.length h0
    rw [List.length_take, List.length_drop] at this
    simp at this
    omega
  obtain ⟨x, y, hxy⟩ := (List.eq_nil_or_concat ((l.drop a).take (j - a))).resolve_left hne
  rw [hxy] at hm h1
  have h2 : y = 58 := by
    have := congrArg List.getLast? hm
    simpa using this
  have h3 := List.all_eq_true.1 h1 y (by simp)
  rw [h2, wrdB_colon] at h3
  cases h3
theorem cand_kw {l : List UInt8} {a : Nat} (ha : 0 < a) (hal : a ≤ l.length) (hk : nmKw (l.take a) = true) : candB l a = true := by
  unfold candB
  simp only [Bool.and_eq_true, decide_eq_true_eq]
  refine ⟨⟨kind_of_kw hk, hal⟩, ?_⟩
  obtain ⟨m, hm⟩ := kw_end hk
  have h1 : l[a - 1]? = some 58 := by
    have h2 : (l.take a)[a - 1]? = some 58 := by
      have hl : m.length = a - 1 := by
        have := congrArg List.length hm
        rw [List.length_take] at this
        simp at this
        omega
      rw [hm, ← hl]
      simp
    rw [List.getElem?_take] at h2
    split at h2
    · exact h2
    · cases h2
  cases l with
  | nil => rfl
  | cons c r =>
    show (!letB c || _ || _) = true
    rw [h1]
    simp
theorem sym_exit {l : List UInt8} {a best : Nat} (h : SymSt l a best) (hb : runL binB l = 0) (hn : wrdL (l.drop a) = 0) : symL l = best := by
  rcases h with ⟨rfl, rfl⟩ | ⟨h0, rfl, hal, hk⟩
  · exact sym_none hn hb
  · refine symL_of (.inr (cand_kw h0 hal hk)) fun j hj => ?_
    rcases Nat.lt_or_ge best j with h1 | h1
    · exfalso
      have hk2 := kind_colon (colon_mem hk (Nat.le_of_lt h1)) (cand_kind hj)
      obtain ⟨m, hm⟩ := kw_end hk
      have hjl := cand_le hj
      rw [take_split l (Nat.le_of_lt h1), hm, List.append_assoc, List.singleton_append] at hk2
      have hne : (l.drop best).take (j - best) ≠ [] := by
        intro h0
        have := congrArg List.length h0
        rw [List.length_take, List.length_drop] at this
        simp at this
        omega
      obtain ⟨c, r, h3, h4⟩ := kw_next hk2 hne
      cases hd : l.drop best with
      | nil => rw [hd] at h3; simp at h3
      | cons d q =>
        rw [hd] at h3 hn
        obtain ⟨i, hi⟩ : ∃ i, j - best = i + 1 := ⟨j - best - 1, by omega⟩
        rw [hi, List.take_succ_cons] at h3
        injection h3 with h3 _
        rw [wrdL, h3, h4] at hn
        simp [runL, let_wrd h4] at hn
    · exact h1
/-- What is best behind one word more. -/
def symBest (l : List UInt8) (a n best : Nat) : Nat := if a = 0 ∧ nmKind (l.take n) = 1 then n else best
theorem kind_one {m : List UInt8} (h : nmKind m = 1) : nmLower m = true := by
  unfold nmKind at h
  split at h
  · assumption
  · split at h
    · omega
    · split at h <;> omega
theorem kind_three {m : List UInt8} (h : nmKind m = 3) : nmKw m = true := by
  unfold nmKind at h
  split at h
  · omega
  · split at h
    · omega
    · split at h
      · assumption
      · omega
theorem kw_three {m : List UInt8} (h : nmKw m = true) : nmKind m = 3 := by
  obtain ⟨a, ha⟩ := kw_end h
  have hm : (58 : UInt8) ∈ m := by rw [ha]; simp
  have h1 : nmLower m = false := by
    rw [Bool.eq_false_iff]
    intro hl
    have := List.all_eq_true.1 (nmLower_word hl).1 58 hm
    rw [wrdB_colon] at this
    cases this
  have h2 : nmBin m = false := by
    rw [Bool.eq_false_iff]
    intro hl
    have := List.all_eq_true.1 (bin_all hl).2 58 hm
    rw [binB_colon] at this
    cases this
  simp [nmKind, h1, h2, h]
/-- No selector goes on beyond this word: then the best is the longest. -/
theorem sym_last {l : List UInt8} {a best : Nat} (h : SymSt l a best) (hn : 0 < wrdL (l.drop a)) (hmore : ∀ j, a + wrdL (l.drop a) < j → j ≤ l.length → nmLower (l.take j) = false ∧ nmKw (l.take j) = false) :
    symL l = symBest l a (wrdL (l.drop a)) best := by
  obtain ⟨c, r, hl, hc⟩ := sym_head h hn
  obtain ⟨hr, _⟩ := wrdL_run hn
  obtain ⟨n, hN⟩ : ∃ n, n = wrdL (l.drop a) := ⟨_, rfl⟩
  rw [← hN] at hn hmore hr ⊢
  have hnl : a + n ≤ l.length ∨ l.length < a := by
    have := runL_le wrdB (l.drop a)
    rw [← hr, List.length_drop] at this
    omega
  have hal : a ≤ l.length := by
    rcases h with ⟨rfl, _⟩ | ⟨_, _, h, _⟩
    · omega
    · exact h
  have hno : ∀ j, a < j → candB l j = true → a = 0 ∧ j = n ∧ nmLower (l.take n) = true := by
    intro j h1 hj
    have hk := cand_kind hj
    have hjl := cand_le hj
    rcases Nat.lt_or_ge (a + n) j with h2 | h2
    · obtain ⟨h3, h4⟩ := hmore j h2 hjl
      exfalso
      rcases kind_pos hk with h | h | h
      · rw [h3] at h; cases h
      · rw [not_bin hl hc] at h; cases h
      · rw [h4] at h; cases h
    · rcases kind_pos hk with h3 | h3 | h3
      · rcases h with ⟨rfl, _⟩ | ⟨_, _, _, hkw⟩
        · rcases Nat.lt_or_ge j n with h4 | h4
          · exfalso
            unfold candB at hj
            simp only [Bool.and_eq_true] at hj
            have hw := hj.2
            rw [List.drop_zero] at hr
            have hjn : ∃ d, l[j]? = some d ∧ wrdB d = true := by
              have hlt : j < l.length := by omega
              exact ⟨_, List.getElem?_eq_getElem hlt, runL_all wrdB l j _ (by omega) (List.getElem?_eq_getElem hlt)⟩
            obtain ⟨d, hd1, hd2⟩ := hjn
            have hjm : l[j - 1]? ≠ some 58 := by
              intro h5
              have := runL_all wrdB l (j - 1) 58 (by omega) h5
              rw [wrdB_colon] at this
              cases this
            subst hl
            change (!letB c || _ || _) = true at hw
            rw [hc, hd1] at hw
            simp [hd2] at hw
            exact hjm hw
          · have : j = n := by omega
            subst this
            exact ⟨rfl, rfl, h3⟩
        · rw [not_lower hkw (Nat.le_of_lt h1)] at h3
          cases h3
      · rw [not_bin hl hc] at h3; cases h3
      · rw [not_kw h1 (by rw [← hr]; exact h2) hjl] at h3; cases h3
  unfold symBest
  split
  · rename_i hcond
    obtain ⟨rfl, hk1⟩ := hcond
    refine symL_of (.inr ?_) fun j hj => ?_
    · unfold candB
      simp only [Bool.and_eq_true, decide_eq_true_eq]
      refine ⟨⟨by omega, by omega⟩, ?_⟩
      have h5 : (match l[n]? with | some d => wrdB d | none => false) = false := by
        rcases hd : l[n]? with _ | d
        · rfl
        · rw [List.drop_zero] at hr
          exact runL_end wrdB l d (by rw [← hr]; exact hd)
      subst hl
      show (!letB c || _ || !_) = true
      rw [h5]
      simp
    · rcases Nat.eq_zero_or_pos j with h1 | h1
      · omega
      · have := (hno j h1 hj).2.1
        omega
  · rename_i hcond
    refine symL_of ?_ fun j hj => ?_
    · rcases h with ⟨_, rfl⟩ | ⟨h1, rfl, h2, h3⟩
      · exact .inl rfl
      · exact .inr (cand_kw h1 h2 h3)
    · rcases Nat.lt_or_ge a j with h1 | h1
      · obtain ⟨h2, h3, h4⟩ := hno j h1 hj
        exact absurd ⟨h2, kind_of_lower h4⟩ hcond
      · rcases h with ⟨h2, h3⟩ | ⟨_, h3, _, _⟩ <;> omega
theorem sym_open {l : List UInt8} {a best : Nat} (h : SymSt l a best) (hn : 0 < wrdL (l.drop a)) (hc : l[a + wrdL (l.drop a)]? ≠ some 58) : symL l = symBest l a (wrdL (l.drop a)) best := by
  refine sym_last h hn fun j h1 h2 => ?_
  obtain ⟨hr, _⟩ := wrdL_run hn
  obtain ⟨d, hd⟩ : ∃ d, l[a + wrdL (l.drop a)]? = some d := ⟨_, List.getElem?_eq_getElem (by omega)⟩
  have hw : wrdB d = false := runL_end wrdB (l.drop a) d (by rw [← hr, List.getElem?_drop]; exact hd)
  have hm : d ∈ l.take j := by
    refine List.mem_of_getElem? (i := a + wrdL (l.drop a)) ?_
    rw [List.getElem?_take, if_pos h1, hd]
  constructor
  · rw [Bool.eq_false_iff]
    intro hl
    have := List.all_eq_true.1 (nmLower_word hl).1 d hm
    rw [hw] at this
    cases this
  · rw [Bool.eq_false_iff]
    intro hk
    rcases kw_chars hk hm with h3 | h3
    · rw [hw] at h3
      cases h3
    · rw [hd, h3] at hc
      exact hc rfl
theorem take_colon {l : List UInt8} {k : Nat} (hc : l[k]? = some 58) : l.take (k + 1) = l.take k ++ [58] := by
  have hlt := (List.getElem?_eq_some_iff.1 hc).1
  rw [List.take_add_one, hc]
  rfl
theorem sym_shut {l : List UInt8} {a best : Nat} (h : SymSt l a best) (hn : 0 < wrdL (l.drop a)) (hc : l[a + wrdL (l.drop a)]? = some 58) (hk : nmKind (l.take (a + wrdL (l.drop a) + 1)) ≠ 3) : symL l = symBest l a (wrdL (l.drop a)) best := by
  refine sym_last h hn fun j h1 h2 => ?_
  have e1 := take_colon hc
  have e2 : l.take j = l.take (a + wrdL (l.drop a)) ++ 58 :: (l.drop (a + wrdL (l.drop a) + 1)).take (j - (a + wrdL (l.drop a) + 1)) := by
    rw [take_split l (show a + wrdL (l.drop a) + 1 ≤ j from h1), e1, List.append_assoc, List.singleton_append]
  constructor
  · rw [Bool.eq_false_iff]
    intro hl
    have := List.all_eq_true.1 (nmLower_word hl).1 58 (by rw [e2]; simp)
    rw [wrdB_colon] at this
    cases this
  · rw [Bool.eq_false_iff]
    intro hl
    rw [e2] at hl
    have := kw_prefix hl
    rw [← e1] at this
    exact hk (kw_three this)
theorem sym_next {l : List UInt8} {a : Nat} (hc : l[a + wrdL (l.drop a)]? = some 58) (hk : nmKind (l.take (a + wrdL (l.drop a) + 1)) = 3) : SymSt l (a + wrdL (l.drop a) + 1) (a + wrdL (l.drop a) + 1) :=
  .inr ⟨by omega, rfl, (List.getElem?_eq_some_iff.1 hc).1, kind_three hk⟩
end Go.Proofs.YtefloadjolpgbaaGreatDoor

namespace Go.Proofs.YtefloadjolpgbaaGreatDoor
open Go.RowKit

theorem str_drop (l : List UInt8) (a : Nat) : (str l).extract a l.length = str (l.drop a) := by
  rw [str_extract, List.take_of_length_le (by rw [List.length_drop]; exact Nat.le_refl _)]
theorem str_take (l : List UInt8) (n : Nat) : (str l).extract 0 n = str (l.take n) := by
  rw [str_extract, List.drop_zero, Nat.sub_zero]

/-- Is there a keyword's colon at a place? -/
def kwB (l : List UInt8) (n : Nat) : Bool := l[n]? == some 58 && !(l[n + 1]? == some 61)

theorem prefix2 (l : List UInt8) (n : Nat) (h : l[n]? = some 58) : Lib.hasPrefix (l.drop n) [58, 61] = (l[n + 1]? == some 61) := by
  obtain ⟨r, hr⟩ : ∃ r, l.drop n = 58 :: r := by
    have hlt := (List.getElem?_eq_some_iff.1 h)
    obtain ⟨h1, h2⟩ := hlt
    exact ⟨l.drop (n + 1), by rw [List.drop_eq_getElem_cons h1, h2]⟩
  have h1 : l[n + 1]? = r[0]? := by
    have : (l.drop n)[1]? = l[n + 1]? := List.getElem?_drop
    rw [← this, hr]
    rfl
  rw [hr, h1]
  unfold Lib.hasPrefix
  cases r with
  | nil => rfl
  | cons d q => simp [List.isPrefixOf, Bool.beq_comm]

set_option maxHeartbeats 800000 in
set_option maxRecDepth 100000 in
theorem scKeyword_any (l : List UInt8) (n : Nat) (hl : l.length ≤ 100000) (hn : n ≤ l.length) (w : World) : Calls Tryz.prog 25 #[.string (str l), .int .i64 n] w fun e w' => e = .returned (.bool (kwB l n)) ∧ w = w' := by
  have hsz := str_size l
  have he := str_drop l n
  rcases hc : l[n]? with _ | c
  · have HB := Lib.hid (show kwB l n = false by unfold kwB; rw [hc]; rfl)
    have hge : ¬ n < l.length := by
      have := List.getElem?_eq_none_iff.1 hc
      omega
    clear hc
    go_enter Tryz.func25, Tryz.ntmps25
    go_wp2_with fail
    go_ret
    exact ⟨ret_bool (by rw [HB.out]), rfl⟩
  · have hlt := (List.getElem?_eq_some_iff.1 hc).1
    have hg := str_getE hc (by omega)
    by_cases h58 : c = 58
    · subst h58
      have HB := Lib.hid (show kwB l n = !(l[n + 1]? == some 61) by unfold kwB; rw [hc]; simp)
      have HP := Lib.hid (prefix2 l n hc)
      clear hc
      go_enter Tryz.func25, Tryz.ntmps25
      go_wp2_with fail
      refine (Tryz.strings_HasPrefix (str (l.drop n)) (str [58, 61]) _).mono ?_
      rintro e w2 ⟨rfl, rfl⟩
      rw [show Lib.hasPrefix (str (l.drop n)).data.toList (str [58, 61]).data.toList = (l[n + 1]? == some 61) from HP.out]
      go_wp2_with fail
      go_ret
      exact ⟨ret_bool (by rw [HB.out]), rfl⟩
    · have HB := Lib.hid (show kwB l n = false by unfold kwB; rw [hc]; simp [h58])
      have hu := u8_lt c
      have hne : ((c.toNat : Int) == 58) = false := by
        have : c.toNat ≠ 58 := fun h => h58 (UInt8.toNat_inj.1 h)
        simp
        omega
      clear hc h58
      go_enter Tryz.func25, Tryz.ntmps25
      go_wp2_with fail
      go_ret
      exact ⟨ret_bool (by rw [HB.out]), rfl⟩

theorem ne_of_u8 {c d : UInt8} (h : c ≠ d) : ((c.toNat : Int) == (d.toNat : Int)) = false := by
  have : c.toNat ≠ d.toNat := fun h1 => h (UInt8.toNat_inj.1 h1)
  simp
  omega

set_option maxHeartbeats 1600000 in
set_option maxRecDepth 100000 in
theorem scSymbol_any (l : List UInt8) (hl : l.length ≤ 5000) (w : World) : Calls Tryz.prog 30 #[.string (str l)] w fun e w' => e = .returned (.int .i64 (symL l)) ∧ Mod Nil w w' := by
  have hsz := str_size l
  rcases Nat.eq_zero_or_pos (runL binB l) with hb | hb
  · have hm : ((min 2 (runL binB l) : Nat) : Int) = 0 := by rw [hb]; rfl
    have HBIN := Lib.hid (fun w => scBin_any l (by omega) w)
    have HZ := Lib.hid hb
    clear hb
    go_enter Tryz.func30, Tryz.ntmps30
    go_wp2_with fail
    refine (HBIN.out _).mono ?_
    rw [hm]
    rintro e w2 ⟨rfl, rfl⟩
    clear hm
    go_wp2_with fail
    go_loopw [4, 5] (fun b a wr => ∃ at_ best : Nat, b = .int .i64 best ∧ a = .int .i64 at_ ∧ SymSt l at_ best ∧ at_ ≤ l.length ∧ Mod Nil w wr) (fun _ a _ => l.length - (intOf a).toNat)
    case atStart => exact ⟨0, 0, rfl, rfl, .inl ⟨rfl, rfl⟩, Nat.zero_le _, Mod.refl _ _⟩
    case round =>
      obtain ⟨a, best, rfl, rfl, hst, hal, hm⟩ := hrel
      have HST := Lib.hid hst
      have HM := Lib.hid hm
      have he1 := str_drop l a
      obtain ⟨n, hn⟩ : ∃ n, n = wrdL (l.drop a) := ⟨_, rfl⟩
      have hnle : a + n ≤ l.length := by
        have := wrdL_le (l.drop a)
        rw [List.length_drop] at this
        omega
      have HN := Lib.hid hn
      have HW := Lib.hid (fun w => scWord_any (l.drop a) (by rw [List.length_drop]; omega) w)
      rw [← hn] at HW
      clear hst hm hn
      go_wp2_with fail
      refine (HW.out _).mono ?_
      rintro e w3 ⟨rfl, rfl⟩
      by_cases h0 : n = 0
      · have HX := Lib.hid (sym_exit HST.out HZ.out (by rw [← HN.out]; exact h0))
        subst h0
        go_wp2_with fail
        go_ret
        exact ⟨ret_int (by rw [HX.out]), HM.out⟩
      · have h0' : ((n : Int) == 0) = false := by simp [h0]
        have HPOS := Lib.hid (Nat.pos_of_ne_zero h0)
        have hpos : 0 < n := Nat.pos_of_ne_zero h0
        clear h0
        have he2 := str_take l n
        by_cases ha : a = 0
        · have HK1 := Lib.hid (fun w => nmKind_any (l.take n) (by rw [List.length_take]; omega) w)
          by_cases hk : nmKind (l.take n) = 1
          · have HSB := Lib.hid (show symBest l a n best = n by unfold symBest; rw [if_pos ⟨ha, hk⟩])
            rw [hk] at HK1
            subst ha
            clear hk
            go_wp2_with fail
            refine (HK1.out _).mono ?_
            rintro e w4 ⟨rfl, hm4⟩
            have HMX := Lib.hid (HM.out.trans hm4)
            clear hm4
            rcases hc : l[n]? with _ | c
            · have hge : ¬ n < l.length := by
                have := List.getElem?_eq_none_iff.1 hc
                omega
              have HX := Lib.hid (sym_open HST.out (by rw [← HN.out]; exact HPOS.out) (by rw [← HN.out, Nat.zero_add, hc]; exact fun h => by cases h))
              have hge' : ¬ ((n : Int) < (l.length : Int)) := by omega
              clear hc
              go_wp2_with fail
              go_ret
              exact ⟨ret_int (by rw [HX.out, ← HN.out, HSB.out]), HMX.out⟩
            · have hlt := (List.getElem?_eq_some_iff.1 hc).1
              have hg := str_getE hc (by omega)
              by_cases h58 : c = 58
              · subst h58
                have he3 : (str l).extract 0 (n + 1) = str (l.take (n + 1)) := str_take l (n + 1)
                have HK2 := Lib.hid (fun w => nmKind_any (l.take (n + 1)) (by rw [List.length_take]; omega) w)
                by_cases hk3 : nmKind (l.take (n + 1)) = 3
                · have HX := Lib.hid (sym_next (l := l) (a := 0) (by rw [← HN.out, Nat.zero_add]; exact hc) (by rw [← HN.out, Nat.zero_add]; exact hk3))
                  rw [← HN.out, Nat.zero_add] at HX
                  rw [hk3] at HK2
                  clear hc hk3
                  go_wp2_with fail
                  refine (HK2.out _).mono ?_
                  rintro e w5 ⟨rfl, hm5⟩
                  have HM5 := Lib.hid (HMX.out.trans hm5)
                  clear hm5
                  go_wp2_with fail
                  refine ⟨⟨n + 1, n + 1, ?_, ?_, HX.out, by omega, HM5.out⟩, ?_⟩
                  · simp <;> omega
                  · simp <;> omega
                  · simp [intOf]
                    omega
                · have HX := Lib.hid (sym_shut HST.out (by rw [← HN.out]; exact HPOS.out) (by rw [← HN.out, Nat.zero_add]; exact hc) (by rw [← HN.out, Nat.zero_add]; exact hk3))
                  have hk3' : ((nmKind (l.take (n + 1)) : Int) == 3) = false := by simp; omega
                  clear hc hk3
                  go_wp2_with fail
                  refine (HK2.out _).mono ?_
                  rintro e w5 ⟨rfl, hm5⟩
                  have HM5 := Lib.hid (HMX.out.trans hm5)
                  clear hm5
                  go_wp2_with fail
                  go_ret
                  exact ⟨ret_int (by rw [HX.out, ← HN.out, HSB.out]), HM5.out⟩
              · have HX := Lib.hid (sym_open HST.out (by rw [← HN.out]; exact HPOS.out) (by rw [← HN.out, Nat.zero_add, hc]; exact fun h => h58 (Option.some.inj h)))
                have hu := u8_lt c
                have hne := ne_of_u8 h58
                have hne2 : ((c.toNat : Int) == 58) = false := hne
                have hne3 : ((c.toNat : Int) != 58) = true := by rw [bne, hne2]; rfl
                clear hc h58 hne
                go_wp2_with fail
                go_ret
                exact ⟨ret_int (by rw [HX.out, ← HN.out, HSB.out]), HMX.out⟩
          · have HSB := Lib.hid (show symBest l a n best = best by unfold symBest; rw [if_neg (fun h => hk h.2)])
            have hk1 : ((nmKind (l.take n) : Int) == 1) = false := by simp; omega
            subst ha
            clear hk
            go_wp2_with fail
            refine (HK1.out _).mono ?_
            rintro e w4 ⟨rfl, hm4⟩
            have HMX := Lib.hid (HM.out.trans hm4)
            clear hm4
            rcases hc : l[n]? with _ | c
            · have hge : ¬ n < l.length := by
                have := List.getElem?_eq_none_iff.1 hc
                omega
              have HX := Lib.hid (sym_open HST.out (by rw [← HN.out]; exact HPOS.out) (by rw [← HN.out, Nat.zero_add, hc]; exact fun h => by cases h))
              have hge' : ¬ ((n : Int) < (l.length : Int)) := by omega
              clear hc
              go_wp2_with fail
              go_ret
              exact ⟨ret_int (by rw [HX.out, ← HN.out, HSB.out]), HMX.out⟩
            · have hlt := (List.getElem?_eq_some_iff.1 hc).1
              have hg := str_getE hc (by omega)
              by_cases h58 : c = 58
              · subst h58
                have he3 : (str l).extract 0 (n + 1) = str (l.take (n + 1)) := str_take l (n + 1)
                have HK2 := Lib.hid (fun w => nmKind_any (l.take (n + 1)) (by rw [List.length_take]; omega) w)
                by_cases hk3 : nmKind (l.take (n + 1)) = 3
                · have HX := Lib.hid (sym_next (l := l) (a := 0) (by rw [← HN.out, Nat.zero_add]; exact hc) (by rw [← HN.out, Nat.zero_add]; exact hk3))
                  rw [← HN.out, Nat.zero_add] at HX
                  rw [hk3] at HK2
                  clear hc hk3
                  go_wp2_with fail
                  refine (HK2.out _).mono ?_
                  rintro e w5 ⟨rfl, hm5⟩
                  have HM5 := Lib.hid (HMX.out.trans hm5)
                  clear hm5
                  go_wp2_with fail
                  refine ⟨⟨n + 1, n + 1, ?_, ?_, HX.out, by omega, HM5.out⟩, ?_⟩
                  · simp <;> omega
                  · simp <;> omega
                  · simp [intOf]
                    omega
                · have HX := Lib.hid (sym_shut HST.out (by rw [← HN.out]; exact HPOS.out) (by rw [← HN.out, Nat.zero_add]; exact hc) (by rw [← HN.out, Nat.zero_add]; exact hk3))
                  have hk3' : ((nmKind (l.take (n + 1)) : Int) == 3) = false := by simp; omega
                  clear hc hk3
                  go_wp2_with fail
                  refine (HK2.out _).mono ?_
                  rintro e w5 ⟨rfl, hm5⟩
                  have HM5 := Lib.hid (HMX.out.trans hm5)
                  clear hm5
                  go_wp2_with fail
                  go_ret
                  exact ⟨ret_int (by rw [HX.out, ← HN.out, HSB.out]), HM5.out⟩
              · have HX := Lib.hid (sym_open HST.out (by rw [← HN.out]; exact HPOS.out) (by rw [← HN.out, Nat.zero_add, hc]; exact fun h => h58 (Option.some.inj h)))
                have hu := u8_lt c
                have hne := ne_of_u8 h58
                have hne2 : ((c.toNat : Int) == 58) = false := hne
                have hne3 : ((c.toNat : Int) != 58) = true := by rw [bne, hne2]; rfl
                clear hc h58 hne
                go_wp2_with fail
                go_ret
                exact ⟨ret_int (by rw [HX.out, ← HN.out, HSB.out]), HMX.out⟩
        · have HSB := Lib.hid (show symBest l a n best = best by unfold symBest; rw [if_neg (fun h => ha h.1)])
          have ha' : ((a : Int) == 0) = false := by simp; omega
          have HMX := HM
          clear ha
          rcases hc : l[a + n]? with _ | c
          · have hge : ¬ a + n < l.length := by
              have := List.getElem?_eq_none_iff.1 hc
              omega
            have HX := Lib.hid (sym_open HST.out (by rw [← HN.out]; exact HPOS.out) (by rw [← HN.out, hc]; exact fun h => by cases h))
            have hge' : ¬ ((a : Int) + (n : Int) < (l.length : Int)) := by omega
            clear hc
            go_wp2_with fail
            go_ret
            exact ⟨ret_int (by rw [HX.out, ← HN.out, HSB.out]), HMX.out⟩
          · have hlt := (List.getElem?_eq_some_iff.1 hc).1
            have hg := str_getE hc (by omega)
            by_cases h58 : c = 58
            · subst h58
              have he3 : (str l).extract 0 (a + (n + 1)) = str (l.take (a + n + 1)) := str_take l (a + n + 1)
              have HK2 := Lib.hid (fun w => nmKind_any (l.take (a + n + 1)) (by rw [List.length_take]; omega) w)
              by_cases hk3 : nmKind (l.take (a + n + 1)) = 3
              · have HX := Lib.hid (sym_next (l := l) (a := a) (by rw [← HN.out]; exact hc) (by rw [← HN.out]; exact hk3))
                rw [← HN.out] at HX
                rw [hk3] at HK2
                clear hc hk3
                go_wp2_with fail
                refine (HK2.out _).mono ?_
                rintro e w5 ⟨rfl, hm5⟩
                have HM5 := Lib.hid (HMX.out.trans hm5)
                clear hm5
                go_wp2_with fail
                refine ⟨⟨a + n + 1, a + n + 1, ?_, ?_, HX.out, by omega, HM5.out⟩, ?_⟩
                · simp <;> omega
                · simp <;> omega
                · simp [intOf]
                  omega
              · have HX := Lib.hid (sym_shut HST.out (by rw [← HN.out]; exact HPOS.out) (by rw [← HN.out]; exact hc) (by rw [← HN.out]; exact hk3))
                have hk3' : ((nmKind (l.take (a + n + 1)) : Int) == 3) = false := by simp; omega
                clear hc hk3
                go_wp2_with fail
                refine (HK2.out _).mono ?_
                rintro e w5 ⟨rfl, hm5⟩
                have HM5 := Lib.hid (HMX.out.trans hm5)
                clear hm5
                go_wp2_with fail
                go_ret
                exact ⟨ret_int (by rw [HX.out, ← HN.out, HSB.out]), HM5.out⟩
            · have HX := Lib.hid (sym_open HST.out (by rw [← HN.out]; exact HPOS.out) (by rw [← HN.out, hc]; exact fun h => h58 (Option.some.inj h)))
              have hu := u8_lt c
              have hne := ne_of_u8 h58
              have hne2 : ((c.toNat : Int) == 58) = false := hne
              have hne3 : ((c.toNat : Int) != 58) = true := by rw [bne, hne2]; rfl
              clear hc h58 hne
              go_wp2_with fail
              go_ret
              exact ⟨ret_int (by rw [HX.out, ← HN.out, HSB.out]), HMX.out⟩
  · have hm : ((min 2 (runL binB l) : Nat) : Int) = ((symL l : Nat) : Int) := by rw [sym_bin hb]
    have hpos : 0 < symL l := by rw [sym_bin hb]; omega
    have HBIN := Lib.hid (fun w => scBin_any l (by omega) w)
    generalize symL l = k at hm hpos ⊢
    clear hb
    go_enter Tryz.func30, Tryz.ntmps30
    go_wp2_with fail
    refine (HBIN.out _).mono ?_
    rw [hm]
    rintro e w2 ⟨rfl, rfl⟩
    clear hm
    go_wp2_with fail
    go_ret
    exact ⟨rfl, Mod.refl _ _⟩
end Go.Proofs.YtefloadjolpgbaaGreatDoor

namespace Go.Proofs.YtefloadjolpgbaaGreatDoor
open Go.RowKit

theorem bldSize : (Tryz.prog.info? 66).map (·.size) = some 2 := by kernel_rfl
theorem bldLies : liesAt Tryz.prog Tryz.prog.depth 66 (2 / Tryz.prog.cellsOf 66) 0 66 1 = true := by kernel_rfl

set_option maxHeartbeats 1000000 in
set_option maxRecDepth 100000 in
theorem copyCheck_used (b : Nat) (w : World) (h0 : w.cell? ⟨b, 0, none⟩ = some (.pointer (some ⟨b, 0, none⟩))) :
    Calls Tryz.prog 53 #[.pointer (some ⟨b, 0, none⟩)] w fun e w' => e = .returned (.tuple #[]) ∧ w' = w := by
  obtain ⟨j, hj, _⟩ := Option.map_eq_some_iff.1 bldSize
  go_enter Tryz.func53, Tryz.ntmps53
  go_wp2
  rw [Lib.run_neq_ptr_same w _ Tryz.underlying64 hj]
  go_wp2
  go_end0
  exact ⟨rfl, rfl⟩

set_option maxHeartbeats 1000000 in
set_option maxRecDepth 100000 in
theorem copyCheck_fresh (b : Nat) (w : World) (h0 : w.cell? ⟨b, 0, none⟩ = some (.pointer none)) (hsh : w.shape? b = some (66, 2)) (hfz : w.frozen? ⟨b, 0, none⟩ = false) :
    Calls Tryz.prog 53 #[.pointer (some ⟨b, 0, none⟩)] w fun e w' => e = .returned (.tuple #[]) ∧ w' = w.setCell ⟨b, 0, none⟩ (.pointer (some ⟨b, 0, none⟩)) := by
  obtain ⟨j, hj, hjs⟩ := Option.map_eq_some_iff.1 bldSize
  go_enter Tryz.func53, Tryz.ntmps53
  go_wp2
  rw [Lib.run_to_unsafe w ⟨b, 0, none⟩ Tryz.underlying64 Tryz.underlying85 hj (by rw [hjs]; decide) hsh (Nat.zero_lt_succ 1)]
  simp only [Result.andThen]
  rw [Oper.upon_value]
  go_wp2
  rw [run_callFunc_extern Tryz.func61 (by kernel_rfl) (by kernel_rfl) (by kernel_rfl) (e := Extern.AbiNoEscape.same) (by kernel_rfl)]
  rw [Lib.run_noEscape]
  simp only [Result.andThen]
  rw [Oper.upon_value]
  go_wp2
  rw [Lib.run_from_unsafe w ⟨b, 0, none⟩ Tryz.underlying85 Tryz.underlying64 hj hsh bldLies]
  simp only [Result.andThen]
  rw [Oper.upon_value]
  go_wp2
  go_end0
  exact ⟨rfl, rfl⟩

theorem copyCheck_any (B b : Nat) (bs : List Value) (w : World) (h : Lib.IsBuilder 66 5 B b bs w) :
    Calls Tryz.prog 53 #[.pointer (some ⟨b, 0, none⟩)] w fun e w' => e = .returned (.tuple #[]) ∧ (Lib.BuilderAt 66 5 B b (.pointer (some ⟨b, 0, none⟩)) bs w' ∧ Below B w w') := by
  rcases h with h | h
  · refine (copyCheck_fresh b w h.cell0 h.shape h.frozen0).mono ?_
    rintro e w' ⟨rfl, rfl⟩
    exact ⟨rfl, h.used _, (Below.refl B w).setCell (p := ⟨b, 0, none⟩) h.1 _⟩
  · refine (copyCheck_used b w h.cell0).mono ?_
    rintro e w' ⟨rfl, rfl⟩
    exact ⟨rfl, h, Below.refl B _⟩

set_option maxHeartbeats 2000000 in
set_option maxRecDepth 100000 in
theorem writeByte_any (B b : Nat) (bs : List Value) (c : Int) (w : World) (h : Lib.IsBuilder 66 5 B b bs w) (hlen : bs.length + 1 ≤ 140737488355328) (hBw : B ≤ w.heap.size) :
    Calls Tryz.prog 42 #[.pointer (some ⟨b, 0, none⟩), .int .u8 c] w fun e w' => e = .returned .nilIface ∧ (Lib.BuilderAt 66 5 B b (.pointer (some ⟨b, 0, none⟩)) (bs ++ [.int .u8 c]) w' ∧ Below B w w') := by
  obtain ⟨i0, hi, hz0, hz1, hz2⟩ := info_parts (show (Tryz.prog.info? 5).map (fun i => (i.zero, i.size, i.bytes)) = some (some (.int .u8 0), 1, 1) by kernel_rfl)
  go_enter Tryz.func42, Tryz.ntmps42
  go_wp2_with (go_at_call 53; refine (copyCheck_any B b bs _ h).mono ?_)
  rintro e w1 ⟨rfl, h1, hb1⟩
  obtain ⟨hB, v, hbk, hown, hne⟩ := h1
  have c0 : w1.cell? ⟨b, 0, none⟩ = some (.pointer (some ⟨b, 0, none⟩)) := by rw [Lib.cell_of_heap hbk]; rfl
  have c1 : w1.cell? ⟨b, 1, none⟩ = some v := by rw [Lib.cell_of_heap hbk]; rfl
  go_wp2_with (at_builtin; refine wpList_append_own _ rfl _ _ 42 rfl B 5 i0 (.int .u8 0) 1 1 Tryz.underlying42 hi hz0 hz1 hz2 rfl (by decide) _ _ _ rfl (hown.alloc _) ⟨w1.heap.size, 0, none⟩ 1 1 [.int .u8 c] rfl rfl ?c1 ?c2 ?c3 ?c4 ?c5 ?_)
  case c1 =>
    intro j u hj
    match j, hj with
    | 0, hj => simp at hj; subst hj; simp [Addr.add]
  case c2 => intro u hu; simp at hu; subst hu; rfl
  case c3 => unfold maxLen; omega
  case c4 => omega
  case c5 => have := hb1.size; simp; omega
  intro v' w2 hown' hgrow _
  have hlt : b < w1.heap.size := by
    rcases Nat.lt_or_ge b w1.heap.size with h' | h'
    · exact h'
    · simp [Array.getElem?_eq_none h'] at hbk
  have hb2 : w2.heap[b]? = some (.cells #[.pointer (some ⟨b, 0, none⟩), v] 66 (0, 0)) := by
    rw [hgrow.block b (by simp; omega) (fun e => hne e.symm), Lib.alloc_old w1 _ b hlt]
    exact hbk
  have d0 : w2.cell? ⟨b, 0, none⟩ = some (.pointer (some ⟨b, 0, none⟩)) := by rw [Lib.cell_of_heap hb2]; rfl
  have d1 : w2.cell? ⟨b, 1, none⟩ = some v := by rw [Lib.cell_of_heap hb2]; rfl
  have f1 : w2.frozen? ⟨b, 1, none⟩ = false := Lib.frozen_of_heap hb2 1
  obtain ⟨g, cap, rfl⟩ : ∃ g cap, v' = .slice (some ⟨g, 0, none⟩) (bs.length + 1) cap := by
    rcases hown'.2 with ⟨_, h0⟩ | ⟨g, cap, cur, hv, _⟩
    · omega
    · exact ⟨g, cap, hv⟩
  go_wp2
  go_ret
  refine ⟨rfl, ?_, ?_⟩
  · exact Lib.BuilderAt.put (T := 66) (e := 5) hB hb2 (bs' := bs ++ [.int .u8 c]) (by simpa using hown') (by decide)
  · exact ((hb1.alloc (by have := hb1.size; omega) _).grown hgrow (by have := hb1.size; simp; omega) (fun k hk => (hown.lt k hk).1)).setCell (p := ⟨b, 1, none⟩) hB _
end Go.Proofs.YtefloadjolpgbaaGreatDoor

namespace Go.Proofs.YtefloadjolpgbaaGreatDoor
open Go.RowKit

/-- What a text in quotes stands for, and how far it goes; behind its first quote. -/
def txtL : List UInt8 → Option (List UInt8 × Nat)
  | [] => none
  | [c] => if c = 39 then some ([], 1) else none
  | c :: d :: r => if c = 39 then (if d = 39 then (txtL r).map fun x => (39 :: x.1, x.2 + 2) else some ([], 1)) else (txtL (d :: r)).map fun x => (c :: x.1, x.2 + 1)

theorem txtL_plain {c : UInt8} (r : List UInt8) (h : c ≠ 39) : txtL (c :: r) = (txtL r).map fun x => (c :: x.1, x.2 + 1) := by
  cases r with
  | nil => simp [txtL, h]
  | cons d r => rw [txtL, if_neg h]
theorem txtL_end {r : List UInt8} (h : r[0]? ≠ some 39) : txtL (39 :: r) = some ([], 1) := by
  cases r with
  | nil => rfl
  | cons d r =>
    rw [txtL, if_pos rfl, if_neg]
    rintro rfl
    exact h rfl
theorem txtL_two (r : List UInt8) : txtL (39 :: 39 :: r) = (txtL r).map fun x => (39 :: x.1, x.2 + 2) := by rw [txtL, if_pos rfl, if_pos rfl]
theorem txtL_le : ∀ (n : Nat) (l : List UInt8), l.length ≤ n → ∀ {t : List UInt8} {k : Nat}, txtL l = some (t, k) → 1 ≤ k ∧ k ≤ l.length
  | 0, l, hl, t, k, h => by
    cases l with
    | nil => cases h
    | cons c r => simp at hl
  | n + 1, l, hl, t, k, h => by
    cases l with
    | nil => cases h
    | cons c r =>
      by_cases hc : c = 39
      · subst hc
        by_cases h0 : r[0]? = some 39
        · cases r with
          | nil => simp at h0
          | cons d q =>
            simp at h0
            subst h0
            rw [txtL_two] at h
            rcases hx : txtL q with _ | ⟨t', k'⟩
            · rw [hx] at h; cases h
            · rw [hx] at h
              simp at h
              have := txtL_le n q (by simp at hl; omega) hx
              simp
              omega
        · rw [txtL_end h0] at h
          simp at h
          simp
          omega
      · rw [txtL_plain r hc] at h
        rcases hx : txtL r with _ | ⟨t', k'⟩
        · rw [hx] at h; cases h
        · rw [hx] at h
          simp at h
          have := txtL_le n r (by simp at hl; omega) hx
          simp
          omega

/-- What scan.text hands back, of a text that begins with a quote. -/
def txtR (l : List UInt8) : List UInt8 × Nat := match txtL (l.drop 1) with
  | some (t, k) => (t, k + 1)
  | none => ([], 0)

structure TxSt (B b : Nat) (l : List UInt8) (i : Nat) (out : List UInt8) (w wr : World) : Prop where
  le : i ≤ l.length
  pos : 1 ≤ i
  eq : txtL (l.drop 1) = (txtL (l.drop i)).map fun x => (out ++ x.1, x.2 + (i - 1))
  len : out.length ≤ l.length
  olen : out.length ≤ i
  bld : Lib.IsBuilder 66 5 B b (Lib.byteCells out) wr
  mod : Mod Nil w wr
  big : B ≤ wr.heap.size

theorem byteCells_snoc (out : List UInt8) (c : UInt8) : Lib.byteCells out ++ [.int .u8 (c.toNat : Int)] = Lib.byteCells (out ++ [c]) := by
  simp [Lib.byteCells]
theorem byteCells_length (out : List UInt8) : (Lib.byteCells out).length = out.length := by simp [Lib.byteCells]

theorem TxSt.one {B b : Nat} {l : List UInt8} {i : Nat} {out : List UInt8} {w wr wr' : World} (h : TxSt B b l i out w wr) (hB : w.heap.size ≤ B) {c : UInt8} (hc : l[i]? = some c) (hne : c ≠ 39)
    (hb : Lib.BuilderAt 66 5 B b (.pointer (some ⟨b, 0, none⟩)) (Lib.byteCells out ++ [.int .u8 (c.toNat : Int)]) wr') (hm : Below B wr wr') : TxSt B b l (i + 1) (out ++ [c]) w wr' := by
  have hlt := (List.getElem?_eq_some_iff.1 hc).1
  have hd : l.drop i = c :: l.drop (i + 1) := by rw [List.drop_eq_getElem_cons hlt, (List.getElem?_eq_some_iff.1 hc).2]
  refine ⟨hlt, by omega, ?_, by have := h.olen; simp; omega, by have := h.olen; simp; omega, .inr (by rw [← byteCells_snoc]; exact hb), ?_, Nat.le_trans h.big hm.size⟩
  · rw [h.eq, hd, txtL_plain _ hne, Option.map_map]
    congr 1
    funext x
    have := h.pos
    simp
    omega
  · exact ⟨hm.os.trans h.mod.os, hm.tape.trans h.mod.tape, hm.output.trans h.mod.output, Nat.le_trans h.mod.size hm.size, fun k hk hn => (hm.block k (by omega)).trans (h.mod.block k hk hn)⟩
theorem TxSt.two {B b : Nat} {l : List UInt8} {i : Nat} {out : List UInt8} {w wr wr' : World} (h : TxSt B b l i out w wr) (hB : w.heap.size ≤ B) (hc : l[i]? = some 39) (hc2 : l[i + 1]? = some 39)
    (hb : Lib.BuilderAt 66 5 B b (.pointer (some ⟨b, 0, none⟩)) (Lib.byteCells out ++ [.int .u8 ((39 : UInt8).toNat : Int)]) wr') (hm : Below B wr wr') : TxSt B b l (i + 2) (out ++ [39]) w wr' := by
  have hlt := (List.getElem?_eq_some_iff.1 hc).1
  have hlt2 := (List.getElem?_eq_some_iff.1 hc2).1
  have hd : l.drop i = 39 :: 39 :: l.drop (i + 2) := by rw [List.drop_eq_getElem_cons hlt, (List.getElem?_eq_some_iff.1 hc).2, List.drop_eq_getElem_cons hlt2, (List.getElem?_eq_some_iff.1 hc2).2]
  refine ⟨hlt2, by omega, ?_, by have := h.olen; simp; omega, by have := h.olen; simp; omega, .inr (by rw [← byteCells_snoc]; exact hb), ?_, Nat.le_trans h.big hm.size⟩
  · rw [h.eq, hd, txtL_two, Option.map_map]
    congr 1
    funext x
    have := h.pos
    simp
    omega
  · exact ⟨hm.os.trans h.mod.os, hm.tape.trans h.mod.tape, hm.output.trans h.mod.output, Nat.le_trans h.mod.size hm.size, fun k hk hn => (hm.block k (by omega)).trans (h.mod.block k hk hn)⟩
theorem TxSt.end_ {B b : Nat} {l : List UInt8} {i : Nat} {out : List UInt8} {w wr : World} (h : TxSt B b l i out w wr) (hc : l[i]? = some 39) (hc2 : l[i + 1]? ≠ some 39) : txtR l = (out, i + 1) := by
  have hlt := (List.getElem?_eq_some_iff.1 hc).1
  have hd : l.drop i = 39 :: l.drop (i + 1) := by rw [List.drop_eq_getElem_cons hlt, (List.getElem?_eq_some_iff.1 hc).2]
  unfold txtR
  rw [h.eq, hd, txtL_end (by rw [List.getElem?_drop]; exact hc2)]
  have := h.pos
  simp
  omega
theorem TxSt.none {B b : Nat} {l : List UInt8} {i : Nat} {out : List UInt8} {w wr : World} (h : TxSt B b l i out w wr) (hi : ¬ i < l.length) : txtR l = ([], 0) := by
  have hd : l.drop i = [] := List.drop_eq_nil_of_le (by omega)
  unfold txtR
  rw [h.eq, hd]
  rfl

set_option maxHeartbeats 1600000 in
set_option maxRecDepth 100000 in
theorem scText_any (l : List UInt8) (hl : l.length ≤ 5000) (h1 : 1 ≤ l.length) (w : World) : Calls Tryz.prog 29 #[.string (str l)] w fun e w' => e = .returned (.tuple #[.string (str (txtR l).1), .int .i64 (txtR l).2]) ∧ Mod Nil w w' := by
  have hsz := str_size l
  have hst0 : TxSt w.heap.size w.heap.size l 1 [] w (w.alloc (.cells #[.pointer .none, .slice .none 0 0] 66)) :=
    ⟨h1, Nat.le_refl _, by cases txtL (l.drop 1) <;> simp, by simp, by simp, Lib.fresh_isBuilder _ _ _, (Mod.refl _ _).alloc _, by simp⟩
  have HST0 := Lib.hid hst0
  clear hst0 h1
  go_enter Tryz.func29, Tryz.ntmps29
  go_wp2_with fail
  go_loopw [5] (fun v wr => ∃ i out, v = .int .i64 (i : Nat) ∧ TxSt w.heap.size w.heap.size l i out w wr) (fun v _ => l.length - (intOf v).toNat)
  case atStart => exact ⟨1, [], rfl, HST0.out⟩
  case round =>
    obtain ⟨i, out, rfl, hst⟩ := hrel
    have hpos := hst.pos
    have HST := Lib.hid hst
    clear hst
    by_cases hi : i < l.length
    · obtain ⟨c, hc⟩ : ∃ c, l[i]? = some c := ⟨_, List.getElem?_eq_getElem hi⟩
      have hg := str_getE hc (by omega)
      have HC := Lib.hid hc
      have HWB := Lib.hid (fun c => writeByte_any w.heap.size w.heap.size (Lib.byteCells out) c wr HST.out.bld (by rw [byteCells_length]; have := HST.out.len; omega) HST.out.big)
      clear hc
      by_cases h39 : c = 39
      · subst h39
        have hmb : ∀ w2, Below w.heap.size wr w2 → Mod Nil w w2 := fun w2 hm =>
          ⟨hm.os.trans HST.out.mod.os, hm.tape.trans HST.out.mod.tape, hm.output.trans HST.out.mod.output, Nat.le_trans HST.out.mod.size hm.size, fun k hk hn => (hm.block k hk).trans (HST.out.mod.block k hk hn)⟩
        have HMB := Lib.hid hmb
        clear hmb
        by_cases hlast : i + 1 = l.length
        · have HX := Lib.hid (HST.out.end_ HC.out (by rw [List.getElem?_eq_none_iff.2 (by omega)]; exact fun h => by cases h))
          have hl1 : ((i : Int) + 1 == (l.length : Int)) = true := by simp; omega
          go_wp2_with fail
          refine (Tryz.Builder_String_any w.heap.size w.heap.size out wr HST.out.bld HST.out.mod.size).mono ?_
          rintro e w2 ⟨rfl, hm2⟩
          have HM2 := Lib.hid (HMB.out _ hm2)
          clear hm2
          go_wp2_with fail
          go_ret2
          rw [HX.out]
          exact ⟨rfl, HM2.out⟩
        · have hl1 : ((i : Int) + 1 == (l.length : Int)) = false := by simp; omega
          obtain ⟨d, hd⟩ : ∃ d, l[i + 1]? = some d := ⟨_, List.getElem?_eq_getElem (by omega)⟩
          have hg2 := str_getE hd (by omega)
          have HD := Lib.hid hd
          clear hd
          by_cases h39 : d = 39
          · subst h39
            go_wp2_with fail
            refine (HWB.out _).mono ?_
            rintro e w2 ⟨rfl, hb2, hm2⟩
            have HX := Lib.hid (HST.out.two (Nat.le_refl _) HC.out HD.out hb2 hm2)
            clear hb2 hm2
            go_wp2_with fail
            refine ⟨⟨i + 2, _, ?_, HX.out⟩, ?_⟩
            · simp <;> omega
            · simp [intOf]
              omega
          · have hne2 : ((d.toNat : Int) == 39) = false := ne_of_u8 h39
            have hne3 : ((d.toNat : Int) != 39) = true := by rw [bne, hne2]; rfl
            have HX := Lib.hid (HST.out.end_ HC.out (by rw [HD.out]; exact fun h => h39 (Option.some.inj h)))
            clear h39
            go_wp2_with fail
            refine (Tryz.Builder_String_any w.heap.size w.heap.size out wr HST.out.bld HST.out.mod.size).mono ?_
            rintro e w2 ⟨rfl, hm2⟩
            have HM2 := Lib.hid (HMB.out _ hm2)
            clear hm2
            go_wp2_with fail
            go_ret2
            rw [HX.out]
            exact ⟨rfl, HM2.out⟩
      · have hne2 : ((c.toNat : Int) == 39) = false := ne_of_u8 h39
        have hne3 : ((c.toNat : Int) != 39) = true := by rw [bne, hne2]; rfl
        have HNE := Lib.hid h39
        clear h39
        go_wp2_with fail
        refine (HWB.out _).mono ?_
        rintro e w2 ⟨rfl, hb2, hm2⟩
        have HX := Lib.hid (HST.out.one (Nat.le_refl _) HC.out HNE.out hb2 hm2)
        clear hb2 hm2
        go_wp2_with fail
        refine ⟨⟨i + 1, _, ?_, HX.out⟩, ?_⟩
        · simp <;> omega
        · simp [intOf]
          omega
    · have HX := Lib.hid (HST.out.none hi)
      go_wp2_with fail
      go_ret2
      rw [HX.out]
      exact ⟨rfl, HST.out.mod⟩
end Go.Proofs.YtefloadjolpgbaaGreatDoor
