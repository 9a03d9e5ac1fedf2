/- Plainly: a text in quotes. -/
import Derived.Test.YtpjpmlhnhcmacaaGreatDoorRnH
import Derived.Test.YtpjpmlhnhcmacaaGreatDoorScV
import Derived.Lib.Replace
namespace Go.Proofs.YtpjpmlhnhcmacaaGreatDoor
open Go.RowKit

def quoteL (l : List UInt8) : List UInt8 := l.flatMap fun c => if c = 39 then [39, 39] else [c]
theorem quoteL_cons (c : UInt8) (l : List UInt8) : quoteL (c :: l) = (if c = 39 then [39, 39] else [c]) ++ quoteL l := rfl
theorem quoteL_snoc (l : List UInt8) (c : UInt8) : quoteL (l ++ [c]) = quoteL l ++ (if c = 39 then [39, 39] else [c]) := by simp [quoteL]
theorem quoteL_len (l : List UInt8) : (quoteL l).length ≤ l.length * 2 := by
  induction l with
  | nil => simp [quoteL]
  | cons c r ih =>
    rw [quoteL_cons, List.length_append, List.length_cons]
    split <;> simp <;> omega
theorem quote_replace : ∀ s : List UInt8, Lib.replaceK [39] [39, 39] (Lib.count s [39]) s = quoteL s
  | [] => rfl
  | c :: r => by
    have ih := quote_replace r
    by_cases h : c = 39
    · subst h
      have hi : Lib.index (39 :: r) [39] = ((0 : Nat) : Int) := by rw [Lib.index_one, Lib.indexByte]; rfl
      rw [Lib.count_cons_eq, Nat.add_comm, Lib.replaceK_hit _ _ _ _ 0 hi, quoteL_cons, if_pos rfl]
      simp [ih]
    · rw [Lib.count_cons_ne _ _ _ h, quoteL_cons, if_neg h]
      rcases hk : Lib.count r [39] with _ | m
      · rw [hk] at ih
        rw [← ih]
        rfl
      · rw [hk] at ih
        obtain ⟨i, hi⟩ := Lib.index_of_count (s := r) (old := [39]) (by omega)
        have hi2 : Lib.index (c :: r) [39] = ((i + 1 : Nat) : Int) := by
          rw [Lib.index_one] at hi ⊢
          rw [Lib.indexByte, hi]
          have h2 : (c == 39) = false := by simp [h]
          rw [h2]
          simp <;> omega
        rw [Lib.replaceK_hit _ _ _ _ _ hi2, ← ih, Lib.replaceK_hit _ _ _ _ _ hi]
        simp
theorem quote_all (s : List UInt8) : Lib.replaceAll s [39] [39, 39] = quoteL s := by
  unfold Lib.replaceAll Lib.replace Lib.replaceNum
  rw [if_neg (by decide), if_pos (.inl (by decide)), quote_replace]
theorem txtL_quote : ∀ s : List UInt8, txtL (quoteL s ++ [39]) = some (s, (quoteL s).length + 1)
  | [] => rfl
  | c :: r => by
    have ih := txtL_quote r
    rw [quoteL_cons]
    split
    · rename_i h
      subst h
      rw [List.append_assoc]
      show txtL (39 :: 39 :: (quoteL r ++ [39])) = _
      rw [txtL_two, ih]
      simp <;> omega
    · rename_i h
      rw [List.append_assoc]
      show txtL (c :: (quoteL r ++ [39])) = _
      rw [txtL_plain _ h, ih]
      simp <;> omega
def quotedL (s : List UInt8) : List UInt8 := 39 :: (quoteL s ++ [39])
theorem quoted_len (s : List UInt8) : (quotedL s).length = (quoteL s).length + 2 := by simp [quotedL]
theorem quoted_all {s : List UInt8} (h : s.length ≤ 500) : allR (quotedL s) = .ok [(⟨5, s, 0⟩, 0), (⟨0, [], 0⟩, (quoteL s).length + 2)] := by
  have hl := quoteL_len s
  have ht : tokL (quotedL s) = some (⟨5, s, 0⟩, (quoteL s).length + 2) := by
    show (txtL (quoteL s ++ [39])).map _ = _
    rw [txtL_quote]
    rfl
  have h1 : allL (quotedL s) = .ok [(⟨5, s, 0⟩, 0), (⟨0, [], 0⟩, (quoteL s).length + 2)] := by
    rw [allL_W]
    have h2 := ht
    unfold quotedL at h2 ⊢
    rw [scanW_tok (by decide) (by decide), h2]
    simp only
    rw [List.drop_eq_nil_of_le (by simp), scanW_nil]
    simp [pre]
  unfold allR
  rw [if_neg (by rw [quoted_len]; omega), h1]
end Go.Proofs.YtpjpmlhnhcmacaaGreatDoor
