/- Names and selectors, plainly: octets, words, pieces ended by a colon. -/
import Derived.Test.YtpjpmlhnhcmacaaGreatDoorStr
namespace Go.Proofs.YtpjpmlhnhcmacaaGreatDoor
open Go.RowKit

def smallB (c : UInt8) : Bool := decide (97 ≤ c.toNat) && decide (c.toNat ≤ 122)
def largeB (c : UInt8) : Bool := decide (65 ≤ c.toNat) && decide (c.toNat ≤ 90)
def letB (c : UInt8) : Bool := smallB c || largeB c
def digB (c : UInt8) : Bool := decide (48 ≤ c.toNat) && decide (c.toNat ≤ 57)
def wrdB (c : UInt8) : Bool := letB c || digB c

/-- How many octets are of some, from the beginning on. -/
def runL (p : UInt8 → Bool) : List UInt8 → Nat
  | [] => 0
  | c :: r => if p c then runL p r + 1 else 0
theorem runL_le (p : UInt8 → Bool) : ∀ l : List UInt8, runL p l ≤ l.length
  | [] => Nat.le_refl _
  | c :: r => by
    have := runL_le p r
    rw [runL]
    split <;> simp <;> omega
theorem runL_all (p : UInt8 → Bool) : ∀ (l : List UInt8) (i : Nat) (c : UInt8), i < runL p l → l[i]? = some c → p c = true
  | [], i, c, h, _ => by simp [runL] at h
  | x :: r, i, c, h, hc => by
    rw [runL] at h
    split at h
    · rename_i hx
      cases i with
      | zero => simp at hc; subst hc; exact hx
      | succ i => exact runL_all p r i c (by omega) (by simpa using hc)
    · omega
theorem runL_end (p : UInt8 → Bool) : ∀ (l : List UInt8) (c : UInt8), l[runL p l]? = some c → p c = false
  | [], c, h => by simp at h
  | x :: r, c, h => by
    rw [runL] at h
    split at h
    · exact runL_end p r c (by simpa using h)
    · rename_i hx
      simp at h
      subst h
      simpa using hx
theorem runL_of {p : UInt8 → Bool} {l : List UInt8} {n : Nat} (h1 : ∀ i c, i < n → l[i]? = some c → p c = true) (hn : n ≤ l.length) (h2 : ∀ c, l[n]? = some c → p c = false) : runL p l = n := by
  induction l generalizing n with
  | nil => simp at hn; simp [runL, hn]
  | cons x r ih =>
    cases n with
    | zero =>
      have := h2 x rfl
      rw [runL, if_neg (by simp [this])]
    | succ n =>
      have hx := h1 0 x (by omega) rfl
      rw [runL, if_pos hx, ih (n := n) (fun i c hi hc => h1 (i + 1) c (by omega) (by simpa using hc)) (by simpa using hn) (fun c hc => h2 c (by simpa using hc))]

/-- A word's length, with which a text begins. -/
def wrdL (l : List UInt8) : Nat := match l with
  | [] => 0
  | c :: _ => if letB c then runL wrdB l else 0
theorem wrdL_le (l : List UInt8) : wrdL l ≤ l.length := by
  cases l with
  | nil => exact Nat.le_refl _
  | cons c r =>
    rw [wrdL]
    split
    · exact runL_le _ _
    · omega

def nmIs (l : List UInt8) : Bool := (match l with | [] => false | c :: _ => letB c) && l.all wrdB && decide (l.length ≤ 40)
def nmLower (l : List UInt8) : Bool := nmIs l && (match l with | [] => false | c :: _ => smallB c)
def binL : List UInt8 := [43, 45, 42, 47, 60, 62, 61, 126, 38, 44, 64, 37]
def binB (c : UInt8) : Bool := binL.contains c
def nmBin (l : List UInt8) : Bool := (decide (l.length = 1) || decide (l.length = 2)) && l.all binB

/-- The pieces that a colon ends, without it; what stays. -/
def splitC : List UInt8 → List (List UInt8) × List UInt8
  | [] => ([], [])
  | c :: r => if c = 58 then ([] :: (splitC r).1, (splitC r).2) else match (splitC r).1 with
    | [] => ([], c :: (splitC r).2)
    | p :: ps => ((c :: p) :: ps, (splitC r).2)
def nmKw (l : List UInt8) : Bool := (splitC l).2.isEmpty && decide (1 ≤ (splitC l).1.length) && decide ((splitC l).1.length ≤ 10) && (splitC l).1.all nmLower
def nmKind (l : List UInt8) : Nat := if nmLower l then 1 else if nmBin l then 2 else if nmKw l then 3 else 0

theorem splitC_nocolon : ∀ {a : List UInt8} (_ : ∀ c ∈ a, c ≠ 58), splitC a = ([], a)
  | [], _ => rfl
  | c :: r, h => by
    have ih := splitC_nocolon (a := r) (fun x hx => h x (by simp [hx]))
    rw [splitC, if_neg (h c (by simp)), ih]
theorem splitC_append : ∀ (a : List UInt8) (b : List UInt8), splitC (a ++ 58 :: b) = ((splitC a).1 ++ (splitC a).2 :: (splitC b).1, (splitC b).2)
  | [], b => by simp [splitC]
  | c :: r, b => by
    have ih := splitC_append r b
    rw [List.cons_append, splitC, splitC, ih]
    split
    · simp
    · rcases h : (splitC r).1 with _ | ⟨p, ps⟩
      · simp
      · simp
/-- The pieces put together again. -/
theorem splitC_join : ∀ (l : List UInt8), (splitC l).1.flatMap (· ++ [58]) ++ (splitC l).2 = l
  | [] => rfl
  | c :: r => by
    have ih := splitC_join r
    rw [splitC]
    split
    · rename_i hc
      simp [hc, ih]
    · rcases h : (splitC r).1 with _ | ⟨p, ps⟩
      · rw [h] at ih
        simp at ih
        simp [ih]
      · rw [h] at ih
        simp at ih
        simp [ih]
theorem wrdB_colon : wrdB 58 = false := by decide
theorem binB_colon : binB 58 = false := by decide

theorem nmIs_word {l : List UInt8} (h : nmIs l = true) : l.all wrdB = true := by
  unfold nmIs at h
  simp at h
  simpa using h.1.2
theorem nmLower_word {l : List UInt8} (h : nmLower l = true) : l.all wrdB = true ∧ l ≠ [] ∧ l.length ≤ 40 := by
  unfold nmLower at h
  simp only [Bool.and_eq_true] at h
  refine ⟨nmIs_word h.1, ?_, ?_⟩
  · rintro rfl
    simp at h
  · have := h.1
    unfold nmIs at this
    simp at this
    exact this.2
end Go.Proofs.YtpjpmlhnhcmacaaGreatDoor
