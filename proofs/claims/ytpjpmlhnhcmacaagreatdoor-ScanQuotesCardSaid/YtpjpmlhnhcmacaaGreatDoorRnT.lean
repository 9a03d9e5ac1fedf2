/- The document's whole, walked. -/
import Derived.Test.YtpjpmlhnhcmacaaGreatDoorRnM
namespace Go.Proofs.YtpjpmlhnhcmacaaGreatDoor
open Go.RowKit

theorem wholeB_at {l : List UInt8} {a b : Nat} {c d e : UInt8} (hab : a < b) (hc : l[a]? = some c) (hd : l[b - 1]? = some d) (he : l[b]? = some e) : wholeB (l.drop a) (b - a) = (!letB c || d == 58 || !wrdB e) := by
  have hlt := (List.getElem?_eq_some_iff.1 hc).1
  have h1 : (l.drop a)[b - a - 1]? = some d := by rw [List.getElem?_drop, show a + (b - a - 1) = b - 1 by omega]; exact hd
  have h2 : (l.drop a)[b - a]? = some e := by rw [List.getElem?_drop, show a + (b - a) = b by omega]; exact he
  have h3 : l.drop a = c :: l.drop (a + 1) := by rw [List.drop_eq_getElem_cons hlt, (List.getElem?_eq_some_iff.1 hc).2]
  rw [h3] at h1 h2 ⊢
  unfold wholeB
  simp only [h1, h2]
  simp

set_option maxHeartbeats 1600000 in
set_option maxRecDepth 100000 in
theorem rWhole_any (l : List UInt8) (a b : Nat) (hl : l.length ≤ 100000) (hab : a < b) (hb : b < l.length) (w : World) :
    Calls Tryz.prog 40 #[.string (str l), .int .i64 a, .int .i64 b] w fun e w' => e = .returned (.bool (wholeB (l.drop a) (b - a))) ∧ w = w' := by
  have hsz := str_size l
  obtain ⟨c, hc⟩ : ∃ c, l[a]? = some c := ⟨_, List.getElem?_eq_getElem (by omega)⟩
  obtain ⟨d, hd⟩ : ∃ c, l[b - 1]? = some c := ⟨_, List.getElem?_eq_getElem (by omega)⟩
  obtain ⟨x, hx⟩ : ∃ c, l[b]? = some c := ⟨_, List.getElem?_eq_getElem hb⟩
  have HW := Lib.hid (wholeB_at hab hc hd hx)
  have hgc := str_getE hc (by omega)
  have hgd := str_getE hd (by omega)
  have hgx := str_getE hx (by omega)
  have hu := u8_lt d
  have HX : wrdB x = (letB x || digB x) := rfl
  have HX := Lib.hid HX
  clear hc hd hx
  go_enter Tryz.func40, Tryz.ntmps40
  go_wp2_with fail
  refine (rLetter_any c _).mono ?_
  rintro e w2 ⟨rfl, rfl⟩
  rcases h1 : letB c with _ | _
  · go_wp2_with fail
    go_ret
    exact ⟨ret_bool (by rw [HW.out, h1]; rfl), rfl⟩
  · by_cases h58 : d = 58
    · subst h58
      go_wp2_with fail
      go_ret
      exact ⟨ret_bool (by rw [HW.out, h1]; rfl), rfl⟩
    · have hne2 : ((d.toNat : Int) == 58) = false := ne_of_u8 h58
      have hq : (d == 58) = false := by simp [h58]
      have HQ := Lib.hid hq
      clear h58 hq
      go_wp2_with fail
      refine (rLetter_any x _).mono ?_
      rintro e w3 ⟨rfl, rfl⟩
      rcases h2 : letB x with _ | _
      · go_wp2_with fail
        refine (rDigit_any x _).mono ?_
        rintro e w4 ⟨rfl, rfl⟩
        go_wp2_with fail
        go_ret
        exact ⟨ret_bool (by rw [HW.out, h1, HQ.out, HX.out, h2]; simp), rfl⟩
      · go_wp2_with fail
        go_ret
        exact ⟨ret_bool (by rw [HW.out, h1, HQ.out, HX.out, h2]; simp), rfl⟩
end Go.Proofs.YtpjpmlhnhcmacaaGreatDoor
