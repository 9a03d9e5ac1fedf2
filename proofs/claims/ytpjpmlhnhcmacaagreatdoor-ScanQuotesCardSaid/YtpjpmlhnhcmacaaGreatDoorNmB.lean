/- name.binary, walked. -/
import Derived.Test.YtpjpmlhnhcmacaaGreatDoorNmX
import Derived.Shelf.Strings.SlTrimAscii
namespace Go.Proofs.YtpjpmlhnhcmacaaGreatDoor
open Go.RowKit

theorem dropWhile_nil {p : UInt8 → Bool} : ∀ {l : List UInt8}, l.dropWhile p = [] ↔ l.all p = true
  | [] => by simp
  | c :: r => by
    rw [List.dropWhile_cons, List.all_cons]
    cases hp : p c with
    | true => simpa using dropWhile_nil (p := p) (l := r)
    | false => simp
theorem dropWhile_head {p : UInt8 → Bool} : ∀ {l : List UInt8} {c : UInt8} {r : List UInt8}, l.dropWhile p = c :: r → p c = false
  | [], _, _, h => by simp at h
  | d :: l, c, r, h => by
    rw [List.dropWhile_cons] at h
    cases hp : p d with
    | true =>
      rw [hp] at h
      exact dropWhile_head (p := p) (l := l) (by simpa using h)
    | false =>
      rw [hp] at h
      simp at h
      rw [← h.1]
      exact hp
theorem trimS_nil (l cs : List UInt8) : Lib.trimS l cs = [] ↔ l.all (cs.contains ·) = true := by
  unfold Lib.trimS Lib.trimLeftS Lib.trimRightS
  rw [dropWhile_nil, List.all_reverse]
  constructor
  · intro h
    rcases hd : l.reverse.dropWhile (cs.contains ·) with _ | ⟨c, r⟩
    · have := dropWhile_nil.1 hd
      rwa [List.all_reverse] at this
    · have h1 := dropWhile_head hd
      rw [hd] at h
      simp only [List.all_cons, Bool.and_eq_true] at h
      have h2 := h.1
      rw [h1] at h2
      cases h2
  · intro h
    have h2 : l.reverse.dropWhile (cs.contains ·) = [] := dropWhile_nil.2 (by rw [List.all_reverse]; exact h)
    rw [h2]
    rfl

set_option maxHeartbeats 400000 in
set_option maxRecDepth 100000 in
theorem nmBin_any (l : List UInt8) (hl : l.length ≤ 100000) (w : World) : Calls Tryz.prog 141 #[.string (str l)] w fun e w' => e = .returned (.bool (nmBin l)) ∧ Mod Nil w w' := by
  have hsz := str_size l
  have hT := Any.strings_Trim_laid Tryz.lays160 (by kernel_rfl) (str l) (str binL)
  have HT := Lib.hid hT
  have HL : nmBin l = ((decide (l.length = 1) || decide (l.length = 2)) && l.all binB) := rfl
  have HB := Lib.hid HL
  clear hT HL
  by_cases h12 : l.length = 1 ∨ l.length = 2
  · have hq : l.all binB = (Lib.trimS l binL).isEmpty := by
      rw [Bool.eq_iff_iff, List.isEmpty_iff, trimS_nil]
      rfl
    have HQ := Lib.hid hq
    clear hq
    have hd : (decide (l.length = 1) || decide (l.length = 2)) = true := by simpa using h12
    have HD := Lib.hid hd
    clear hd
    have hne : (str (Lib.trimS l binL)).toList.isEmpty = (Lib.trimS l binL).isEmpty := by rw [str_toList]
    rcases h12 with h1 | h1
    all_goals
      go_enter Tryz.func141, Tryz.ntmps141
      go_wp2_with fail
      refine (HT.out _ (by omega) (by decide) (ascii_of_all (by decide))).mono ?_
      rintro e w2 ⟨rfl, hm⟩
      have HM := Lib.hid hm
      clear hm
      go_wp2_with fail
      go_ret
      refine ⟨ret_bool ?_, Mod.of_below HM.out⟩
      rw [HB.out, HD.out, HQ.out]
      simp
      rfl
  · have h1 : l.length ≠ 1 := fun h => h12 (.inl h)
    have h2 : l.length ≠ 2 := fun h => h12 (.inr h)
    have hd : (decide (l.length = 1) || decide (l.length = 2)) = false := by simp [h1, h2]
    have HD := Lib.hid hd
    clear hd
    have hi1 : ((l.length : Int) == 1) = false := by simp; omega
    have hi2 : ((l.length : Int) == 2) = false := by simp; omega
    clear h12 h1 h2
    go_enter Tryz.func141, Tryz.ntmps141
    go_wp2_with fail
    go_ret
    exact ⟨ret_bool (by rw [HB.out, HD.out]; rfl), Mod.refl _ _⟩
end Go.Proofs.YtpjpmlhnhcmacaaGreatDoor
