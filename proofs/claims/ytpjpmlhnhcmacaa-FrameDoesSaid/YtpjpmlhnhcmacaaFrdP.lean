/- Plain law of scopes and activations: scopes by numbers, the words of all. -/
import Derived.Test.YtpjpmlhnhcmacaaBase
namespace Go.Proofs.Ytpjpmlhnhcmacaa
open Go.RowKit

/-- A scope: its variables, the number of the one around it. -/
structure Scp where
  vars : List Int
  up : Option Nat
/-- An activation. -/
structure Frm where
  id : Int
  home : Int
  self : Int
  stack : List Int
  sc : Option Nat

/-- Each scope lies within an elder one. -/
def Acy (ss : List Scp) : Prop := ∀ (k : Nat) (s : Scp), ss[k]? = some s → ∀ j, s.up = some j → j < k

def upOf (ss : List Scp) (k : Nat) : Option Nat := (ss[k]?).bind (·.up)
def varsOf (ss : List Scp) (k : Nat) : List Int := ((ss[k]?).map (·.vars)).getD []
theorem upOf_lt {ss : List Scp} (h : Acy ss) {k j : Nat} (hk : upOf ss k = some j) : j < k := by
  unfold upOf at hk
  obtain ⟨s, hs, hu⟩ := Option.bind_eq_some_iff.1 hk
  exact h k s hs j hu

def outOf (ss : List Scp) : Nat → Option Nat → Option Nat
  | _, none => none
  | 0, some k => some k
  | n + 1, some k => outOf ss n (upOf ss k)
theorem outOf_none (ss : List Scp) (n : Nat) : outOf ss n none = none := by cases n <;> rfl
theorem outOf_zero (ss : List Scp) (k : Option Nat) : outOf ss 0 k = k := by cases k <;> rfl
theorem outOf_far {ss : List Scp} (h : Acy ss) : ∀ (n k : Nat), k < n → outOf ss n (some k) = none
  | 0, _, hk => by omega
  | n + 1, k, hk => by
    rw [outOf]
    rcases hu : upOf ss k with _ | j
    · exact outOf_none _ _
    · exact outOf_far h n j (by have := upOf_lt h hu; omega)
theorem outOf_lt {ss : List Scp} (h : Acy ss) : ∀ (n : Nat) (k j : Nat), outOf ss n (some k) = some j → j ≤ k
  | 0, k, j, hj => by simp [outOf] at hj; omega
  | n + 1, k, j, hj => by
    rw [outOf] at hj
    rcases hu : upOf ss k with _ | i
    · rw [hu, outOf_none] at hj; cases hj
    · rw [hu] at hj
      have := outOf_lt h n i j hj
      have := upOf_lt h hu
      omega

def outI (ss : List Scp) (k : Option Nat) (up : Int) : Option Nat := if up < 0 then none else outOf ss up.toNat k
theorem outI_min {ss : List Scp} (h : Acy ss) {k : Option Nat} (hk : ∀ j, k = some j → j < 1000) (N : Int) : outI ss k (min N 1000) = outI ss k N := by
  unfold outI
  by_cases h0 : N < 0
  · rw [if_pos h0, if_pos (by omega)]
  · rw [if_neg h0, if_neg (by omega)]
    by_cases h1 : N ≤ 1000
    · rw [show min N 1000 = N by omega]
    · rw [show min N 1000 = 1000 by omega]
      cases k with
      | none => rw [outOf_none, outOf_none]
      | some j =>
        have := hk j rfl
        rw [outOf_far h _ _ (by omega), outOf_far h _ _ (by omega)]

/-- The scope so many further out, if it has a variable of that number. -/
def outVar (ss : List Scp) (o : Option Nat) (i : Int) : Option Nat := match o with | none => none | some j => if 0 ≤ i ∧ i < (varsOf ss j).length then some j else none
def setVar (ss : List Scp) (j i : Nat) (x : Int) : List Scp := ss.modify j fun s => { s with vars := s.vars.set i x }

theorem setVar_length (ss : List Scp) (j i : Nat) (x : Int) : (setVar ss j i x).length = ss.length := by simp [setVar]
theorem setVar_at (ss : List Scp) (j i : Nat) (x : Int) (k : Nat) : (setVar ss j i x)[k]? = if k = j then (ss[k]?).map (fun s => { s with vars := s.vars.set i x }) else ss[k]? := by
  unfold setVar
  rw [List.getElem?_modify]
  by_cases h : j = k
  · subst h; simp
  · rw [if_neg (fun e => h e.symm)]
    simp [h]
theorem setVar_acy {ss : List Scp} (h : Acy ss) (j i : Nat) (x : Int) : Acy (setVar ss j i x) := by
  intro k s hs u hu
  rw [setVar_at] at hs
  split at hs
  · obtain ⟨s', hs', rfl⟩ := Option.map_eq_some_iff.1 hs
    exact h k s' hs' u hu
  · exact h k s hs u hu
theorem snoc_acy {ss : List Scp} (h : Acy ss) (s : Scp) (hs : ∀ j, s.up = some j → j < ss.length) : Acy (ss ++ [s]) := by
  intro k s' hk u hu
  rcases Nat.lt_or_ge k ss.length with hlt | hge
  · rw [List.getElem?_append_left hlt] at hk
    exact h k s' hk u hu
  · rw [List.getElem?_append_right hge] at hk
    have : k - ss.length = 0 := by
      have := (List.getElem?_eq_some_iff.1 hk).1
      simp at this
      omega
    rw [this] at hk
    simp at hk
    subst hk
    have := hs u hu
    omega

/-! ### the words of all -/
def fuelOf : Option Nat → Nat
  | none => 0
  | some k => k + 1
def scWords (ss : List Scp) : Nat → Option Nat → List Nat → List Int × List Nat
  | _, none, seen => ([], seen)
  | 0, some _, seen => ([], seen)
  | n + 1, some k, seen => if k ∈ seen then scWords ss n (upOf ss k) seen else (varsOf ss k ++ (scWords ss n (upOf ss k) (seen ++ [k])).1, (scWords ss n (upOf ss k) (seen ++ [k])).2)
/-- The words of the scopes not yet seen, from one on outward; what is seen then. -/
def scW (ss : List Scp) (k : Option Nat) (seen : List Nat) : List Int × List Nat := scWords ss (fuelOf k) k seen
theorem scWords_fuel {ss : List Scp} (h : Acy ss) : ∀ (n : Nat) (k : Option Nat) (seen : List Nat), fuelOf k ≤ n → scWords ss n k seen = scW ss k seen
  | n, none, seen, _ => by unfold scW; cases n <;> rfl
  | 0, some k, seen, hk => by simp [fuelOf] at hk
  | n + 1, some k, seen, hk => by
    have hup : fuelOf (upOf ss k) ≤ n ∧ fuelOf (upOf ss k) ≤ k := by
      rcases hu : upOf ss k with _ | j
      · simp [fuelOf]
      · have := upOf_lt h hu
        simp [fuelOf] at hk ⊢
        omega
    have e : ∀ (m : Nat) (sn : List Nat), fuelOf (upOf ss k) ≤ m → m ≤ n → scWords ss m (upOf ss k) sn = scW ss (upOf ss k) sn := by
      intro m sn h1 h2
      exact scWords_fuel h m (upOf ss k) sn h1
    unfold scW
    simp only [fuelOf]
    rw [scWords, scWords]
    have hkn : k ≤ n := by simp [fuelOf] at hk; omega
    rw [e n _ hup.1 (Nat.le_refl _), e n _ hup.1 (Nat.le_refl _), e k _ hup.2 hkn, e k _ hup.2 hkn]
  termination_by n => n
theorem scW_none (ss : List Scp) (seen : List Nat) : scW ss none seen = ([], seen) := rfl
theorem scW_some {ss : List Scp} (h : Acy ss) (k : Nat) (seen : List Nat) :
    scW ss (some k) seen = if k ∈ seen then scW ss (upOf ss k) seen else (varsOf ss k ++ (scW ss (upOf ss k) (seen ++ [k])).1, (scW ss (upOf ss k) (seen ++ [k])).2) := by
  have hup : fuelOf (upOf ss k) ≤ k := by
    rcases hu : upOf ss k with _ | j
    · simp [fuelOf]
    · have := upOf_lt h hu; simp [fuelOf]; omega
  unfold scW
  simp only [fuelOf]
  rw [scWords, scWords_fuel h _ _ _ hup, scWords_fuel h _ _ _ hup]
  rfl

def frW (ss : List Scp) : List Frm → List Nat → List Int × List Nat
  | [], seen => ([], seen)
  | f :: r, seen => ((f.self :: f.stack) ++ (scW ss f.sc seen).1 ++ (frW ss r (scW ss f.sc seen).2).1, (frW ss r (scW ss f.sc seen).2).2)
theorem frW_snoc (ss : List Scp) (f : Frm) : ∀ (l : List Frm) (seen : List Nat),
    frW ss (l ++ [f]) seen = ((frW ss l seen).1 ++ (f.self :: f.stack) ++ (scW ss f.sc (frW ss l seen).2).1, (scW ss f.sc (frW ss l seen).2).2)
  | [], seen => by simp [frW]
  | x :: l, seen => by simp [frW, frW_snoc ss f l]
theorem frW_take (ss : List Scp) (l : List Frm) (k : Nat) (f : Frm) (hf : l[k]? = some f) (seen : List Nat) :
    frW ss (l.take (k + 1)) seen = ((frW ss (l.take k) seen).1 ++ (f.self :: f.stack) ++ (scW ss f.sc (frW ss (l.take k) seen).2).1, (scW ss f.sc (frW ss (l.take k) seen).2).2) := by
  rw [List.take_add_one, hf]
  exact frW_snoc ss f (l.take k) seen

/-- How many words a stack and its scopes have at the most. -/
theorem scW_len {ss : List Scp} (h : Acy ss) {m : Nat} (hm : ∀ k, (varsOf ss k).length ≤ m) : ∀ (n : Nat) (k : Option Nat) (seen : List Nat), fuelOf k ≤ n → (scW ss k seen).1.length ≤ n * m
  | _, none, seen, _ => by simp [scW_none]
  | 0, some k, seen, hk => by simp [fuelOf] at hk
  | n + 1, some k, seen, hk => by
    have hup : fuelOf (upOf ss k) ≤ n := by
      rcases hu : upOf ss k with _ | j
      · simp [fuelOf]
      · have := upOf_lt h hu; simp [fuelOf] at hk ⊢; omega
    rw [scW_some h]
    have hv := hm k
    split
    · have := scW_len h hm n (upOf ss k) seen hup
      rw [Nat.add_mul]; omega
    · have := scW_len h hm n (upOf ss k) (seen ++ [k]) hup
      simp only [List.length_append]
      rw [Nat.add_mul]; omega

/-- Where the first number is home. -/
def popTo (fs : List Frm) (home : Int) : Option Nat := if fs.findIdx (·.id == home) < fs.length then some (fs.findIdx (·.id == home)) else none
end Go.Proofs.Ytpjpmlhnhcmacaa
