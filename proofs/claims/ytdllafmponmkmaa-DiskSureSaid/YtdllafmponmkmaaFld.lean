/- The law's fields, as they lie in memory; the law's example; which fields are small. -/
import Derived.Test.YtdllafmponmkmaaOctY
namespace Go.Proofs.Ytdllafmponmkmaa
open Go.RowKit

/-- A field of the laws of layer 1. -/
structure Fld where
  kind : Int
  n : Int
  s : ByteArray
  l : List ByteArray

/-- The cells of a field. -/
def FldAt (S : Nat → Prop) (w : World) (b off : Nat) (f : Fld) : Prop :=
  w.cell? ⟨b, off, none⟩ = some (.int .i64 f.kind) ∧ w.cell? ⟨b, off + 1, none⟩ = some (.int .i64 f.n) ∧ w.cell? ⟨b, off + 2, none⟩ = some (.string f.s) ∧
  ∃ B c, w.cell? ⟨b, off + 3, none⟩ = some (.slice B f.l.length c) ∧ f.l.length ≤ maxLen ∧ f.s.size ≤ maxLen ∧ (∀ t ∈ f.l, t.size ≤ maxLen) ∧ Rd S w B (f.l.map Value.string)

def FldsAt (S : Nat → Prop) (w : World) (A : Option Addr) (fs : List Fld) : Prop :=
  0 < fs.length → ∃ b o, A = some ⟨b, o, none⟩ ∧ S b ∧ b < w.heap.size ∧ ∀ (i : Nat) (f : Fld), fs[i]? = some f → FldAt S w b (o + i * 4) f

theorem FldAt.keep {S F : Nat → Prop} {w w' : World} {b off : Nat} {f : Fld} (h : FldAt S w b off f) (hb : b < w.heap.size) (hs : S b) (hm : Mod F w w') (hS : ∀ b, S b → ¬ F b) : FldAt S w' b off f := by
  obtain ⟨h0, h1, h2, B, c, h3, h4, h5, h6, h7⟩ := h
  have hk : ∀ o, w'.cell? ⟨b, o, none⟩ = w.cell? ⟨b, o, none⟩ := fun o => hm.cell hb (hS _ hs)
  exact ⟨(hk _).trans h0, (hk _).trans h1, (hk _).trans h2, B, c, (hk _).trans h3, h4, h5, h6, h7.keep hm hS⟩

theorem FldsAt.keep {S F : Nat → Prop} {w w' : World} {A : Option Addr} {fs : List Fld} (h : FldsAt S w A fs) (hm : Mod F w w') (hS : ∀ b, S b → ¬ F b) : FldsAt S w' A fs := fun hn => by
  obtain ⟨b, o, e, hs, hb, hf⟩ := h hn
  exact ⟨b, o, e, hs, Nat.lt_of_lt_of_le hb hm.size, fun i f hi => (hf i f hi).keep hb hs hm hS⟩

/-- Which fields are small. -/
def fldSmall (f : Fld) : Bool := f.s.size ≤ 200 && f.l.length ≤ 20 && f.l.all fun t => t.size ≤ 100
def fldsSmall (fs : List Fld) : Bool := fs.length ≤ 20 && fs.all fldSmall

set_option maxHeartbeats 1600000 in
set_option maxRecDepth 100000 in
theorem small_any (S : Nat → Prop) (A : Option Addr) (n c : Nat) (fs : List Fld) (w : World) (hn : fs.length = n) (hr : FldsAt S w A fs) :
    Calls Try.prog 21 #[.slice A n c] w fun r w' => r = .returned (.bool (fldsSmall fs)) ∧ w = w' := by
  have HN := Lib.hid hn
  have HR := Lib.hid hr
  clear hn hr
  by_cases h20 : 20 < n
  · have hb : fldsSmall fs = false := by unfold fldsSmall; rw [HN.out]; simp; omega
    rw [hb]
    go_enter Try.func21, Try.ntmps21
    go_wp2_with fail
    go_ret
    exact ⟨rfl, rfl⟩
  · go_enter Try.func21, Try.ntmps21
    go_wp2_with fail
    go_loop [3] (fun i => ∃ k : Nat, k ≤ n ∧ i = .int .i64 k ∧ (fs.take k).all fldSmall = true) (fun i => n - (intOf i).toNat)
    case atStart => exact ⟨0, Nat.zero_le _, rfl, rfl⟩
    case round =>
      obtain ⟨k, hk, rfl, hall⟩ := hrel
      have HALL := Lib.hid hall
      clear hall
      by_cases hlt : k < n
      · obtain ⟨f, hf⟩ : ∃ f, fs[k]? = some f := ⟨_, List.getElem?_eq_getElem (by rw [HN.out]; exact hlt)⟩
        obtain ⟨b, o, rfl, _, _, hat⟩ := HR.out (by rw [HN.out]; omega)
        obtain ⟨h0, h1, h2, B, cB, h3, hl, hs, ht, hRB⟩ := hat k f hf
        have HF := Lib.hid hf
        have HT := Lib.hid ht
        have HRB := Lib.hid hRB
        clear hat hf ht hRB h0 h1
        have hno : fldSmall f = false → fldsSmall fs = false := fun h => by
          unfold fldsSmall
          rw [show fs.all fldSmall = false by rw [List.all_eq_false]; exact ⟨f, List.mem_of_getElem? HF.out, by rw [h]; simp⟩]
          simp
        have HNO := Lib.hid hno
        clear hno
        by_cases hA : 200 < f.s.size
        · have hb : fldsSmall fs = false := HNO.out (by unfold fldSmall; simp; omega)
          have HBq := Lib.hid hb
          clear hb
          go_wp2_with fail
          go_ret
          exact ⟨ret_bool HBq.out.symm, rfl⟩
        by_cases hB : 20 < f.l.length
        · have hb : fldsSmall fs = false := HNO.out (by unfold fldSmall; simp; omega)
          have HBq := Lib.hid hb
          clear hb
          go_wp2_with fail
          go_ret
          exact ⟨ret_bool HBq.out.symm, rfl⟩
        go_wp2_with fail
        go_loop [4] (fun i => ∃ j : Nat, j ≤ f.l.length ∧ i = .int .i64 j ∧ (f.l.take j).all (fun t => t.size ≤ 100) = true) (fun i => f.l.length - (intOf i).toNat)
        case atStart => exact ⟨0, Nat.zero_le _, rfl, rfl⟩
        case round =>
          obtain ⟨j, hj, rfl, hallj⟩ := hrel
          have HALLJ := Lib.hid hallj
          clear hallj
          by_cases hjl : j < f.l.length
          · obtain ⟨t, htj⟩ : ∃ t, f.l[j]? = some t := ⟨_, List.getElem?_eq_getElem hjl⟩
            have hct : (f.l.map Value.string)[j]? = some (.string t) := by rw [List.getElem?_map, htj]; rfl
            obtain ⟨bd, rfl, _, _, hc⟩ := HRB.out.at_ hct
            have htm := HT.out t (List.mem_of_getElem? htj)
            unfold maxLen at htm
            have HTJ := Lib.hid htj
            clear htj hct
            by_cases h100 : 100 < t.size
            · have hb : fldsSmall fs = false := HNO.out (by
                unfold fldSmall
                rw [show (f.l.all fun t => decide (t.size ≤ 100)) = false by rw [List.all_eq_false]; exact ⟨t, List.mem_of_getElem? HTJ.out, by simp; omega⟩]
                simp)
              have HBq := Lib.hid hb
              clear hb
              go_wp2_with fail
              go_ret
              exact ⟨ret_bool HBq.out.symm, rfl⟩
            · go_wp2_with fail
              go_round
              case rel =>
                refine ⟨j + 1, by omega, by go_num, ?_⟩
                rw [List.take_add_one, HTJ.out, List.all_append, HALLJ.out]
                simp; omega
              case measure => simp [intOf] <;> omega
          · have hok : fldSmall f = true := by
              have := HALLJ.out
              rw [List.take_of_length_le (by omega)] at this
              unfold fldSmall
              rw [this]
              simp; omega
            have HOK := Lib.hid hok
            clear hok
            go_wp2_with fail
            go_round
            case rel =>
              refine ⟨k + 1, by omega, by go_num, ?_⟩
              rw [List.take_add_one, HF.out, List.all_append, HALL.out]
              simp [HOK.out]
            case measure => simp [intOf] <;> omega
      · have hb : fldsSmall fs = true := by
          have := HALL.out
          rw [List.take_of_length_le (by rw [HN.out]; omega)] at this
          unfold fldsSmall
          rw [this, HN.out]
          simp; omega
        have HBq := Lib.hid hb
        clear hb
        go_wp2_with fail
        go_ret
        exact ⟨ret_bool HBq.out.symm, rfl⟩

end Go.Proofs.Ytdllafmponmkmaa
