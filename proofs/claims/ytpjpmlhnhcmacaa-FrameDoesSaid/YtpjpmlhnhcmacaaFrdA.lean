/- The deeds of the law FrameDoes, as they lie in memory; which are small. -/
import Derived.Test.YtpjpmlhnhcmacaaFrdQ
import Derived.Test.YtpjpmlhnhcmacaaFrmAw
namespace Go.Proofs.Ytpjpmlhnhcmacaa
open Go.RowKit

structure Deed where
  kind : Int
  n : Int
  m : Int
  i : Int
  x : Int
  l : List Int

def DeedAt (S : Nat → Prop) (w : World) (b off : Nat) (a : Deed) : Prop :=
  w.cell? ⟨b, off, none⟩ = some (.int .i64 a.kind) ∧ w.cell? ⟨b, off + 1, none⟩ = some (.int .i64 a.n) ∧ w.cell? ⟨b, off + 2, none⟩ = some (.int .i64 a.m) ∧ w.cell? ⟨b, off + 3, none⟩ = some (.int .i64 a.i) ∧ w.cell? ⟨b, off + 4, none⟩ = some (.int .u64 a.x) ∧
  ∃ B c, w.cell? ⟨b, off + 5, none⟩ = some (.slice B a.l.length c) ∧ a.l.length ≤ maxLen ∧ Rd S w B (a.l.map wv)

def DeedsAt (S : Nat → Prop) (w : World) (A : Option Addr) (l : List Deed) : Prop :=
  0 < l.length → ∃ b o, A = some ⟨b, o, none⟩ ∧ S b ∧ b < w.heap.size ∧ ∀ (i : Nat) (a : Deed), l[i]? = some a → DeedAt S w b (o + i * 6) a

theorem DeedAt.keep_ {S F : Nat → Prop} {w w' : World} {b off : Nat} {a : Deed} (h : DeedAt S w b off a) (hb : b < w.heap.size) (hs : S b) (hm : Mod F w w') (hS : ∀ b, S b → ¬ F b) : DeedAt S w' b off a := by
  obtain ⟨h0, h1, h2, h3, h4, B, c, h5, h6, h7⟩ := h
  have hk : ∀ o, w'.cell? ⟨b, o, none⟩ = w.cell? ⟨b, o, none⟩ := fun o => hm.cell hb (hS _ hs)
  exact ⟨(hk _).trans h0, (hk _).trans h1, (hk _).trans h2, (hk _).trans h3, (hk _).trans h4, B, c, (hk _).trans h5, h6, h7.keep hm hS⟩
theorem DeedsAt.keep {S F : Nat → Prop} {w w' : World} {A : Option Addr} {l : List Deed} (h : DeedsAt S w A l) (hm : Mod F w w') (hS : ∀ b, S b → ¬ F b) : DeedsAt S w' A l := fun hn => by
  obtain ⟨b, o, e, hs, hb, hf⟩ := h hn
  exact ⟨b, o, e, hs, Nat.lt_of_lt_of_le hb hm.size, fun i f hi => (hf i f hi).keep_ hb hs hm hS⟩

def deedSmall (a : Deed) : Bool := a.l.length ≤ 20 && !(300 < a.n && a.kind == 0)
def deedsSmall (l : List Deed) : Bool := l.length ≤ 40 && l.all deedSmall

set_option maxHeartbeats 1600000 in
set_option maxRecDepth 100000 in
theorem small24_any (S : Nat → Prop) (A : Option Addr) (n c : Nat) (l : List Deed) (w : World) (hn : l.length = n) (hr : DeedsAt S w A l) :
    Calls Try.prog 5 #[.slice A n c] w fun r w' => r = .returned (.bool (deedsSmall l)) ∧ Mod Nil w w' := by
  have HN := Lib.hid hn
  have HR := Lib.hid hr
  clear hn hr
  by_cases h40 : 40 < n
  · have hb : deedsSmall l = false := by unfold deedsSmall; rw [HN.out]; simp; omega
    rw [hb]
    go_enter Try.func5, Try.ntmps5
    go_wp2_with fail
    go_ret
    exact ⟨rfl, Mod.refl _ _⟩
  · go_enter Try.func5, Try.ntmps5
    go_wp2_with fail
    go_loopw [3] (fun i wr => ∃ k : Nat, k ≤ n ∧ i = .int .i64 k ∧ (l.take k).all deedSmall = true ∧ Mod Nil w wr) (fun i _ => n - (intOf i).toNat)
    case atStart => exact ⟨0, Nat.zero_le _, rfl, rfl, Mod.refl _ _⟩
    case round =>
      obtain ⟨k, hk, rfl, hall, hmr⟩ := hrel
      have HALL := Lib.hid hall
      have HM := Lib.hid hmr
      clear hall
      by_cases hlt : k < n
      · obtain ⟨a, ha⟩ : ∃ a, l[k]? = some a := ⟨_, List.getElem?_eq_getElem (by rw [HN.out]; exact hlt)⟩
        obtain ⟨b, o, rfl, _, _, hat⟩ := (HR.out.keep hmr (fun _ _ => id)) (by rw [HN.out]; omega)
        obtain ⟨h0, h1, h2, h3, h4, B, cB, h5, hl5, _⟩ := hat k a ha
        have HA := Lib.hid ha
        clear hat ha h2 h3 h4 hmr
        have hno : deedSmall a = false → deedsSmall l = false := fun h => by
          unfold deedsSmall
          rw [show l.all deedSmall = false by rw [List.all_eq_false]; exact ⟨a, List.mem_of_getElem? HA.out, by rw [h]; simp⟩]
          simp
        have HNO := Lib.hid hno
        clear hno
        by_cases hA : 20 < a.l.length
        · have HBq := Lib.hid (HNO.out (by unfold deedSmall; simp; omega))
          go_wp2_with (go_quiet (fail))
          go_ret
          exact ⟨ret_bool HBq.out.symm, by first | exact HM.out | exact HM.out.drewN _⟩
        by_cases hB : 300 < a.n
        · by_cases hC : a.kind = 0
          · have HBq := Lib.hid (HNO.out (by unfold deedSmall; simp [hB, hC]))
            go_wp2_with (go_quiet (fail))
            go_ret
            exact ⟨ret_bool HBq.out.symm, by first | exact HM.out | exact HM.out.drewN _⟩
          · have HS := Lib.hid (show deedSmall a = true by unfold deedSmall; simp [hC]; omega)
            have hCb : (a.kind == 0) = false := by simp [hC]
            clear hC
            go_wp2_with (go_quiet (fail))
            go_roundw
            case rel => exact ⟨k + 1, by omega, by go_num, by rw [List.take_add_one, HA.out]; simp [HS.out]; simpa using HALL.out, by first | exact HM.out | exact HM.out.drewN _⟩
            case measure => simp [intOf] <;> omega
        · have HS := Lib.hid (show deedSmall a = true by unfold deedSmall; simp; omega)
          go_wp2_with (go_quiet (fail))
          go_roundw
          case rel => exact ⟨k + 1, by omega, by go_num, by rw [List.take_add_one, HA.out]; simp [HS.out]; simpa using HALL.out, by first | exact HM.out | exact HM.out.drewN _⟩
          case measure => simp [intOf] <;> omega
      · have HBq := Lib.hid (show deedsSmall l = true by unfold deedsSmall; have := HALL.out; rw [List.take_of_length_le (by have := HN.out; omega)] at this; rw [this, HN.out]; simp; omega)
        clear hmr
        go_wp2_with fail
        go_ret
        exact ⟨ret_bool HBq.out.symm, by first | exact HM.out | exact HM.out.drewN _⟩
end Go.Proofs.Ytpjpmlhnhcmacaa
