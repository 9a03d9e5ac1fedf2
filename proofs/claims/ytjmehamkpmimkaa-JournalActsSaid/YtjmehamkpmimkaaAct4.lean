/- The acts of the laws of layer 4, as they lie in memory; which are small. -/
import Derived.Test.YtjmehamkpmimkaaAct
namespace Go.Proofs.Ytjmehamkpmimkaa
open Go.RowKit

/-- An act of the laws of layer 4. -/
structure Act4 where
  kind : Int
  raw : Act3

def Act4At (S : Nat → Prop) (w : World) (b off : Nat) (a : Act4) : Prop :=
  w.cell? ⟨b, off, none⟩ = some (.int .i64 a.kind) ∧ ActAt S w b (off + 1) a.raw

def Acts4At (S : Nat → Prop) (w : World) (A : Option Addr) (l : List Act4) : Prop :=
  0 < l.length → ∃ b o, A = some ⟨b, o, none⟩ ∧ S b ∧ b < w.heap.size ∧ ∀ (i : Nat) (a : Act4), l[i]? = some a → Act4At S w b (o + i * 6) a

theorem Act4At.keep_ {S F : Nat → Prop} {w w' : World} {b off : Nat} {a : Act4} (h : Act4At S w b off a) (hb : b < w.heap.size) (hs : S b) (hm : Mod F w w') (hS : ∀ b, S b → ¬ F b) : Act4At S w' b off a :=
  ⟨(hm.cell hb (hS _ hs)).trans h.1, h.2.keep_ hb hs hm hS⟩

theorem Acts4At.keep {S F : Nat → Prop} {w w' : World} {A : Option Addr} {l : List Act4} (h : Acts4At S w A l) (hm : Mod F w w') (hS : ∀ b, S b → ¬ F b) : Acts4At S w' A l := fun hn => by
  obtain ⟨b, o, e, hs, hb, hf⟩ := h hn
  exact ⟨b, o, e, hs, Nat.lt_of_lt_of_le hb hm.size, fun i f hi => (hf i f hi).keep_ hb hs hm hS⟩

/-- Which acts are small. -/
def act4Small (a : Act4) : Bool := a.raw.b.length ≤ 600 && a.raw.keep.length ≤ 60
def acts4Small (m : Nat) (l : List Act4) : Bool := l.length ≤ m && l.all act4Small

set_option maxHeartbeats 1600000 in
set_option maxRecDepth 100000 in
theorem small4_any (S : Nat → Prop) (A : Option Addr) (n c m : Nat) (mv : Int) (l : List Act4) (w : World) (hmv : mv = m) (hm : m ≤ 1000) (hn : l.length = n) (hr : Acts4At S w A l) :
    Calls Try.prog 12 #[.slice A n c, .int .i64 mv] w fun r w' => r = .returned (.bool (acts4Small m l)) ∧ w = w' := by
  subst hmv
  have HN := Lib.hid hn
  have HR := Lib.hid hr
  clear hn hr
  by_cases h40 : m < n
  · have hb : acts4Small m l = false := by unfold acts4Small; rw [HN.out]; simp; omega
    rw [hb]
    go_enter Try.func12, Try.ntmps12
    go_wp2_with fail
    go_ret
    exact ⟨rfl, rfl⟩
  · go_enter Try.func12, Try.ntmps12
    go_wp2_with fail
    go_loop [5] (fun i => ∃ k : Nat, k ≤ n ∧ i = .int .i64 k ∧ (l.take k).all act4Small = true) (fun i => n - (intOf i).toNat)
    case atStart => exact ⟨0, Nat.zero_le _, rfl, rfl⟩
    case round =>
      obtain ⟨k, hk, rfl, hall⟩ := hrel
      have HALL := Lib.hid hall
      clear hall
      by_cases hlt : k < n
      · obtain ⟨a, ha⟩ : ∃ a, l[k]? = some a := ⟨_, List.getElem?_eq_getElem (by rw [HN.out]; exact hlt)⟩
        obtain ⟨b, o, rfl, _, _, hat⟩ := HR.out (by rw [HN.out]; omega)
        obtain ⟨_, h0, h1, h2, ⟨B, cB, h3, hl3, _⟩, K, cK, h4, hl4, _⟩ := hat k a ha
        have HA := Lib.hid ha
        clear hat ha h0 h1 h2
        rw [Nat.add_assoc] at h3 h4
        have hno : act4Small a = false → acts4Small m l = false := fun h => by
          unfold acts4Small
          rw [show l.all act4Small = false by rw [List.all_eq_false]; exact ⟨a, List.mem_of_getElem? HA.out, by rw [h]; simp⟩]
          simp
        have HNO := Lib.hid hno
        clear hno
        by_cases hA : 600 < a.raw.b.length
        · have HBq := Lib.hid (HNO.out (by unfold act4Small; simp; omega))
          go_wp2_with fail
          go_ret
          exact ⟨ret_bool HBq.out.symm, rfl⟩
        by_cases hB : 60 < a.raw.keep.length
        · have HBq := Lib.hid (HNO.out (by unfold act4Small; simp; omega))
          go_wp2_with fail
          go_ret
          exact ⟨ret_bool HBq.out.symm, rfl⟩
        have HS := Lib.hid (show act4Small a = true by unfold act4Small; simp; omega)
        go_wp2_with fail
        go_round
        case rel => exact ⟨k + 1, by omega, by go_num, by rw [List.take_add_one, HA.out]; simp [HS.out]; simpa using HALL.out⟩
        case measure => simp [intOf] <;> omega
      · have HBq := Lib.hid (show acts4Small m l = true by unfold acts4Small; have := HALL.out; rw [List.take_of_length_le (by have := HN.out; omega)] at this; rw [this, HN.out]; simp; omega)
        go_wp2_with fail
        go_ret
        exact ⟨ret_bool HBq.out.symm, rfl⟩

theorem acts4Small_len {m : Nat} {l : List Act4} (h : acts4Small m l = true) : l.length ≤ m := by
  unfold acts4Small at h
  simp at h
  exact h.1
theorem acts4Small_at {m : Nat} {l : List Act4} {k : Nat} {a : Act4} (h : acts4Small m l = true) (ha : l[k]? = some a) : a.raw.b.length ≤ 600 ∧ a.raw.keep.length ≤ 60 := by
  unfold acts4Small at h
  simp at h
  have := h.2 a (List.mem_of_getElem? ha)
  unfold act4Small at this
  simpa using this

end Go.Proofs.Ytjmehamkpmimkaa
