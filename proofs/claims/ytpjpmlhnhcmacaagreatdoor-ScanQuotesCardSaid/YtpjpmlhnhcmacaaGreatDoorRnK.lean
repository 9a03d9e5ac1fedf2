/- The document's Keywords, walked. -/
import Derived.Test.YtpjpmlhnhcmacaaGreatDoorRnX
namespace Go.Proofs.YtpjpmlhnhcmacaaGreatDoor
open Go.RowKit

structure KwSt (w : World) (l : List UInt8) (v : Value) (fr i : Nat) (done : List (List UInt8)) (wr : World) : Prop where
  le : fr ≤ i
  il : i ≤ l.length
  eq : splitC l = (done ++ (splitC (l.drop fr)).1, (splitC (l.drop fr)).2)
  low : ∀ p ∈ done, nmLower p = true
  no : ∀ j c, fr ≤ j → j < i → l[j]? = some c → c ≠ 58
  own : wr.ownsRow w.heap.size 9 1 v done.length (done.map fun p => sv (p ++ [58]))
  mod : Mod Nil w wr
  len : done.length ≤ fr

theorem seg_no {l : List UInt8} {fr i : Nat} (h : ∀ j c, fr ≤ j → j < i → l[j]? = some c → c ≠ 58) : ∀ c ∈ (l.drop fr).take (i - fr), c ≠ 58 := by
  intro c hc
  obtain ⟨j, hj⟩ := List.getElem?_of_mem hc
  rw [List.getElem?_take] at hj
  split at hj
  · rw [List.getElem?_drop] at hj
    exact h (fr + j) c (by omega) (by omega) hj
  · cases hj
/-- At a colon. -/
theorem KwSt.split {w wr : World} {l : List UInt8} {v : Value} {fr i : Nat} {done : List (List UInt8)} (h : KwSt w l v fr i done wr) (hc : l[i]? = some 58) :
    splitC (l.drop fr) = ((l.drop fr).take (i - fr) :: (splitC (l.drop (i + 1))).1, (splitC (l.drop (i + 1))).2) := by
  have hlt := (List.getElem?_eq_some_iff.1 hc).1
  have h1 : l.drop fr = (l.drop fr).take (i - fr) ++ 58 :: l.drop (i + 1) := by
    have h2 : (l.drop fr).drop (i - fr) = 58 :: l.drop (i + 1) := by
      rw [List.drop_drop, show fr + (i - fr) = i by have := h.le; omega, List.drop_eq_getElem_cons hlt, (List.getElem?_eq_some_iff.1 hc).2]
    rw [← h2, List.take_append_drop]
  have h3 := splitC_append ((l.drop fr).take (i - fr)) (l.drop (i + 1))
  rw [← h1, splitC_nocolon (seg_no h.no)] at h3
  exact h3
theorem KwSt.bad {w wr : World} {l : List UInt8} {v : Value} {fr i : Nat} {done : List (List UInt8)} (h : KwSt w l v fr i done wr) (hc : l[i]? = some 58) (hp : nmLower ((l.drop fr).take (i - fr)) = false) : kwL l = [] := by
  have : nmKw l = false := by
    rw [Bool.eq_false_iff]
    intro hk
    have h1 := (kw_parts hk).2.2.2 ((l.drop fr).take (i - fr)) (by rw [h.eq, h.split hc]; simp)
    rw [hp] at h1
    cases h1
  unfold kwL
  rw [this]
  rfl
theorem KwSt.next {w wr wr' : World} {l : List UInt8} {v v' : Value} {fr i : Nat} {done : List (List UInt8)} (h : KwSt w l v fr i done wr) (hc : l[i]? = some 58) (hp : nmLower ((l.drop fr).take (i - fr)) = true)
    (hown : wr'.ownsRow w.heap.size 9 1 v' (done.length + 1) ((done.map fun p => sv (p ++ [58])) ++ [sv ((l.drop fr).take (i - fr) ++ [58])])) (hm : Mod Nil w wr') :
    KwSt w l v' (i + 1) (i + 1) (done ++ [(l.drop fr).take (i - fr)]) wr' := by
  have hlt := (List.getElem?_eq_some_iff.1 hc).1
  refine ⟨Nat.le_refl _, hlt, ?_, ?_, fun j c h1 h2 => by omega, ?_, hm, ?_⟩
  · rw [h.eq, h.split hc]
    simp
  · intro p hp'
    rcases List.mem_append.1 hp' with h1 | h1
    · exact h.low p h1
    · simp at h1
      rw [h1]
      exact hp
  · simpa using hown
  · have := h.le
    have := h.len
    simp
    omega
theorem KwSt.step {w wr : World} {l : List UInt8} {v : Value} {fr i : Nat} {done : List (List UInt8)} (h : KwSt w l v fr i done wr) {c : UInt8} (hc : l[i]? = some c) (hne : c ≠ 58) : KwSt w l v fr (i + 1) done wr :=
  ⟨by have := h.le; omega, (List.getElem?_eq_some_iff.1 hc).1, h.eq, h.low, fun j d h1 h2 hd => by
    rcases Nat.lt_or_ge j i with h3 | h3
    · exact h.no j d h1 h3 hd
    · have : j = i := by omega
      subst this
      rw [hc] at hd
      cases hd
      exact hne, h.own, h.mod, h.len⟩
theorem KwSt.fin {w wr : World} {l : List UInt8} {v : Value} {fr : Nat} {done : List (List UInt8)} (h : KwSt w l v fr l.length done wr) : splitC l = (done, l.drop fr) := by
  have h1 : splitC (l.drop fr) = ([], l.drop fr) := by
    refine splitC_nocolon fun c hc => ?_
    have := seg_no h.no c
    rw [List.take_of_length_le (by rw [List.length_drop]; exact Nat.le_refl _)] at this
    exact this hc
  rw [h.eq, h1]
  simp
theorem KwSt.kw {w wr : World} {l : List UInt8} {v : Value} {fr : Nat} {done : List (List UInt8)} (h : KwSt w l v fr l.length done wr) : kwL l = if fr = l.length ∧ done.length ≤ 10 then done.map (· ++ [58]) else [] := by
  have hf := h.fin
  have hil := h.le
  unfold kwL
  have hk : nmKw l = (decide (fr = l.length) && decide (1 ≤ done.length) && decide (done.length ≤ 10)) := by
    unfold nmKw
    rw [hf]
    have h1 : done.all nmLower = true := List.all_eq_true.2 h.low
    have h2 : (l.drop fr).isEmpty = decide (fr = l.length) := by
      rw [Bool.eq_iff_iff, List.isEmpty_iff, List.drop_eq_nil_iff]
      simp
      omega
    simp only
    rw [h1, h2, Bool.and_true]
  rw [hk, hf]
  by_cases h1 : fr = l.length
  · by_cases h2 : done.length ≤ 10
    · by_cases h3 : 1 ≤ done.length
      · simp [h1, h2, h3]
      · have : done = [] := List.eq_nil_of_length_eq_zero (by omega)
        subst this
        simp
    · simp [h1, h2]
  · simp [h1]
end Go.Proofs.YtpjpmlhnhcmacaaGreatDoor
