/- The document's example, walked. -/
import Derived.Test.YtpjpmlhnhcmacaaGreatDoorScG
import Derived.Test.YtpjpmlhnhcmacaaGreatDoorScP
namespace Go.Proofs.YtpjpmlhnhcmacaaGreatDoor
open Go.RowKit

def awkL : List UInt8 := [120, 58, 61, 35, 97, 116, 58, 112, 117, 116, 58, 32, 115, 105, 122, 101, 46]
def awkT : List (Tok × Nat) := [(⟨1, [120], 0⟩, 0), (⟨7, [58, 61], 0⟩, 1), (⟨6, [97, 116, 58, 112, 117, 116, 58], 0⟩, 3), (⟨1, [115, 105, 122, 101], 0⟩, 12), (⟨7, [46], 0⟩, 16), (⟨0, [], 0⟩, 17)]
set_option maxRecDepth 100000 in
theorem awk_eq : allR awkL = .ok awkT := by kernel_rfl

theorem own_at {w : World} {base g n c : Nat} {e : TypeId} {size : Nat} {xs : List Value} (h : w.ownsRow base e size (.slice (some ⟨g, 0, none⟩) n c) n xs) {j : Nat} {u : Value} (hu : xs[j]? = some u) : w.cell? ⟨g, j, none⟩ = some u := by
  have h1 := h.cells (g := g) rfl j u hu
  have : (⟨g, 0, none⟩ : Addr).add j = ⟨g, j, none⟩ := by unfold Addr.add; split <;> simp_all
  rwa [this] at h1

set_option maxHeartbeats 1600000 in
set_option maxRecDepth 100000 in
theorem awake12_any (w : World) : Calls Tryz.prog 12 #[] w fun e w' => e = .returned (.bool true) ∧ Mod Nil w w' := by
  have HALL := Lib.hid (scAll_any awkL (by decide) w)
  rw [awk_eq] at HALL
  go_enter Tryz.func12, Tryz.ntmps12
  go_wp2_with fail
  refine HALL.out.mono ?_
  rintro e w2 ⟨⟨v, rfl, hown⟩, hm⟩
  obtain ⟨g, cap, rfl, hb, hlt⟩ := hown.form (by decide)
  have h0 := own_at hown (j := 0) rfl
  have h5 := own_at hown (j := 5) rfl
  have h8 := own_at hown (j := 8) rfl
  have h9 := own_at hown (j := 9) rfl
  have h23 := own_at hown (j := 23) rfl
  simp only at h0 h5 h8 h9 h23
  have HM := Lib.hid hm
  have e1 : (str [58, 61]).toList = [58, 61] := str_toList _
  have e2 : (str [97, 116, 58, 112, 117, 116, 58]).toList = [97, 116, 58, 112, 117, 116, 58] := str_toList _
  have hlen : awkT.length = 6 := rfl
  rw [hlen]
  clear hown hm
  go_wp2_with fail
  go_ret
  exact ⟨rfl, HM.out⟩
end Go.Proofs.YtpjpmlhnhcmacaaGreatDoor
