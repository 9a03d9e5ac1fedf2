/- The walk of the law OctetWrites: it answers true, and turns nothing of old. -/
import Derived.Test.YtjmehamkpmimkaaOctAw
import Derived.Test.YtjmehamkpmimkaaOctR
import Derived.Test.YtjmehamkpmimkaaFld
import Derived.Deep.DeepCutAuto
import Derived.Deep.CutBlock
namespace Go.Proofs.Ytjmehamkpmimkaa
open Go.RowKit

/-- What a field is written as; whether it can be. -/
def encFld (f : Fld) : List UInt8 := if f.kind = 0 then encNum f.n else if f.kind = 1 then encInt f.n else if f.kind = 2 then encText f.s.data.toList else encTexts (octs f.l)
def okFld (f : Fld) : Bool := if f.kind = 0 then okNum f.n else true
def fldW (f : Fld) (s : WSt) : WSt := if f.kind = 0 then wNum f.n s else if f.kind = 1 then wInt f.n s else if f.kind = 2 then wText f.s.data.toList s else wTexts (octs f.l) s
def errOf (ok : Bool) : Int := if ok then 0 else 2

theorem wNum_step (n : Int) (out : List UInt8) (ok : Bool) : wNum n (out, errOf ok) = (if ok && okNum n then out ++ encNum n else out, errOf (ok && okNum n)) := by
  unfold wNum
  split
  · rename_i h
    have : okNum n = false := by unfold okNum; rcases h with h | h <;> simp [h]
    rw [this]
    simp [errOf]
  · rename_i h
    have h2 : okNum n = true := by unfold okNum; simp; omega
    have h3 : encNum n = beBytes 4 n.toNat := by unfold encNum; rw [if_neg h]
    rw [h2, h3]
    cases ok <;> simp [wPut, errOf]
theorem wInt_step (n : Int) (out : List UInt8) (ok : Bool) : wInt n (out, errOf ok) = (if ok then out ++ encInt n else out, errOf ok) := by
  cases ok <;> simp [wInt, wPut, errOf, encInt]
theorem okNum_nat (n : Nat) (h : n ≤ 2147483647) : okNum n = true := by unfold okNum; simp; omega
theorem wText_step (t : List UInt8) (out : List UInt8) (ok : Bool) (h : t.length ≤ 2147483647) : wText t (out, errOf ok) = (if ok then out ++ encText t else out, errOf ok) := by
  unfold wText
  rw [wNum_step, okNum_nat _ h]
  cases ok <;> simp [errOf, encText]
theorem wTexts_step (l : List (List UInt8)) (out : List UInt8) (ok : Bool) (h : l.length ≤ 2147483647) (hl : ∀ t ∈ l, t.length ≤ 2147483647) : wTexts l (out, errOf ok) = (if ok then out ++ encTexts l else out, errOf ok) := by
  unfold wTexts
  rw [wNum_step, okNum_nat _ h, Bool.and_true]
  have key : ∀ (m : List (List UInt8)) (o : List UInt8), (∀ t ∈ m, t.length ≤ 2147483647) → m.foldl (fun s t => wText t s) (o, errOf ok) = (if ok then o ++ (m.map encText).flatten else o, errOf ok) := by
    intro m
    induction m with
    | nil => intro o _; cases ok <;> simp
    | cons t m ih =>
      intro o hm
      rw [List.foldl_cons, wText_step t o ok (hm t (by simp)), ih _ (fun u hu => hm u (by simp [hu]))]
      cases ok <;> simp
  rw [key l _ hl]
  cases ok <;> simp [encTexts]

theorem fldW_step (f : Fld) (out : List UInt8) (ok : Bool) (h : fldSmall f = true) : fldW f (out, errOf ok) = (if ok && okFld f then out ++ encFld f else out, errOf (ok && okFld f)) := by
  simp only [fldSmall, Bool.and_eq_true, decide_eq_true_eq, List.all_eq_true] at h
  obtain ⟨⟨h1, h2⟩, h3⟩ := h
  have hs : f.s.data.toList.length = f.s.size := Array.length_toList
  unfold fldW okFld encFld
  split
  · exact wNum_step _ _ _
  · split
    · rw [wInt_step, Bool.and_true]
    · split
      · rw [wText_step _ _ _ (by omega), Bool.and_true]
      · rw [wTexts_step _ _ _ (by rw [octs, List.length_map]; omega) (fun t ht => by
          obtain ⟨u, hu, rfl⟩ := List.mem_map.1 ht
          have := h3 u hu
          have h4 : u.data.toList.length = u.size := Array.length_toList
          omega), Bool.and_true]

theorem FldsAt.low {w : World} {A : Option Addr} {fs : List Fld} (h : FldsAt All w A fs) : FldsAt (fun b => b < w.heap.size) w A fs := fun hn => by
  obtain ⟨b, o, e, _, hb, hf⟩ := h hn
  refine ⟨b, o, e, hb, hb, fun i f hi => ?_⟩
  obtain ⟨h0, h1, h2, B, c, h3, h4, h5, h6, h7⟩ := hf i f hi
  refine ⟨h0, h1, h2, B, c, h3, h4, h5, h6, fun hl => ?_⟩
  obtain ⟨ad, e', _, hb', hc⟩ := h7 hl
  exact ⟨ad, e', hb', hb', hc⟩

theorem encTexts_len (l : List (List UInt8)) (M : Nat) (h : ∀ t ∈ l, t.length ≤ M) : (encTexts l).length ≤ 4 + l.length * (4 + M) := by
  have h0 := encNum_len l.length
  have key : ∀ m : List (List UInt8), (∀ t ∈ m, t.length ≤ M) → ((m.map encText).flatten).length ≤ m.length * (4 + M) := by
    intro m
    induction m with
    | nil => intro _; simp
    | cons t m ih =>
      intro hm
      have h1 := ih fun u hu => hm u (by simp [hu])
      have h2 := encText_len t
      have h3 := hm t (by simp)
      rw [List.map_cons, List.flatten_cons, List.length_append, List.length_cons, Nat.add_mul]
      omega
  have := key l h
  rw [encTexts, List.length_append]
  omega
theorem encFld_len (f : Fld) (h : fldSmall f = true) : (encFld f).length ≤ 3000 := by
  simp only [fldSmall, Bool.and_eq_true, decide_eq_true_eq, List.all_eq_true] at h
  obtain ⟨⟨h1, h2⟩, h3⟩ := h
  have hs : f.s.data.toList.length = f.s.size := Array.length_toList
  unfold encFld
  split
  · have := encNum_len f.n; omega
  · split
    · simp [encInt, beBytes_len]
    · split
      · have := encText_len f.s.data.toList; omega
      · have := encTexts_len (octs f.l) 100 (fun t ht => by
          obtain ⟨u, hu, rfl⟩ := List.mem_map.1 ht
          have := h3 u hu
          have h4 : u.data.toList.length = u.size := Array.length_toList
          omega)
        have h5 : (octs f.l).length ≤ 20 := by rw [octs, List.length_map]; exact h2
        have h6 : (octs f.l).length * (4 + 100) ≤ 20 * 104 := Nat.mul_le_mul_right _ h5
        omega

end Go.Proofs.Ytjmehamkpmimkaa
