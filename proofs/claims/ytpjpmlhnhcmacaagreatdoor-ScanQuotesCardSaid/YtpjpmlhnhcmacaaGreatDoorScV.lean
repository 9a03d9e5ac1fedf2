/- All's result as values; lengths of what is scanned. -/
import Derived.Test.YtpjpmlhnhcmacaaGreatDoorScW
import Derived.Laws.StructEq
import Derived.Outline
import Derived.WalkMore
namespace Go.Proofs.YtpjpmlhnhcmacaaGreatDoor
open Go.RowKit

/-- All's result as three values. -/
def AllV (B : Nat) (r : Except (Nat × Nat) (List (Tok × Nat))) (v : Value) (c p : Nat) (w' : World) : Prop := match r with
  | .error (c', p') => v = .slice none 0 0 ∧ c = c' ∧ p = p'
  | .ok ts => c = 0 ∧ p = 0 ∧ w'.ownsRow B 32 4 v ts.length (tkCells ts)
theorem AllIs.vals {B : Nat} {r : Except (Nat × Nat) (List (Tok × Nat))} {e : Ending} {w' : World} (h : AllIs B r e w') : ∃ v c p, e = .returned (.tuple #[v, .int .i64 (c : Nat), .int .i64 (p : Nat)]) ∧ AllV B r v c p w' := by
  unfold AllIs at h
  rcases r with ⟨c, p⟩ | ts
  · exact ⟨_, c, p, h, rfl, rfl, rfl⟩
  · obtain ⟨v, h1, h2⟩ := h
    exact ⟨v, 0, 0, h1, rfl, rfl, h2⟩

theorem AllV.keep {B : Nat} {r : Except (Nat × Nat) (List (Tok × Nat))} {v : Value} {c p : Nat} {w w' : World} (h : AllV B r v c p w) (hm : Mod Nil w w') : AllV B r v c p w' := by
  unfold AllV at h ⊢
  rcases r with ⟨c', p'⟩ | ts
  · exact h
  · exact ⟨h.1, h.2.1, own_keep h.2.2 hm fun _ _ h => h⟩

/-- A region with one call in it. -/
structure PhCall (W : World) (v : Value) (k : Nat) (h : Hist) (w : World) : Prop where
  s0 : k = 0 → w = W
  s1 : k = 1 → Mod Nil W w ∧ h 0 = v

def shiftT (c : Nat) (ts : List (Tok × Nat)) : List (Tok × Nat) := ts.map fun p => (p.1, p.2 + c)

theorem allR_len {l : List UInt8} {c p : Nat} (hl : l.length ≤ 4000) (h : allR l = .error (c, p)) : c = 40 ∧ allL l = .error p := by
  unfold allR at h
  rw [if_neg (by omega)] at h
  rcases ha : allL l with e | ts
  · rw [ha] at h
    injection h with h
    injection h with h1 h2
    exact ⟨h1.symm, by rw [h2]⟩
  · rw [ha] at h
    cases h
theorem allR_ok {l : List UInt8} {ts : List (Tok × Nat)} (h : allR l = .ok ts) : allL l = .ok ts := by
  unfold allR at h
  split at h
  · cases h
  · rcases ha : allL l with e | us
    · rw [ha] at h
      cases h
    · rw [ha] at h
      injection h with h
      rw [h]
/-- The tokens of the joined text. -/
theorem allR_join {A B : List UInt8} (hA : A.length ≤ 300) (hB : B.length ≤ 300) {ts : List (Tok × Nat)} (h : allR A = .ok ts) :
    ∃ ts0, ts = ts0 ++ [(⟨0, [], 0⟩, A.length)] ∧ allR (A ++ 10 :: B) = match allR B with
      | .ok us => .ok (ts0 ++ shiftT (A.length + 1) us)
      | .error (c, p) => .error (c, p + (A.length + 1)) := by
  obtain ⟨ts0, h1, h2⟩ := scanW_join B A.length A 0 (Nat.le_refl _) (allR_ok h)
  rw [Nat.zero_add] at h1 h2
  refine ⟨ts0, h1, ?_⟩
  have h3 : allL (A ++ 10 :: B) = pre ts0 (shiftE (A.length + 1) (allL B)) := by
    have h4 := scanW_shift (A.length + 1) B.length B 0 (Nat.le_refl _)
    rw [Nat.zero_add] at h4
    rw [h4] at h2
    exact h2
  unfold allR
  rw [if_neg (by simp; omega), if_neg (by omega), h3]
  rcases allL B with e | us
  · rfl
  · rfl
theorem sameL_refl (pl : Bool) (ts : List (Tok × Nat)) : sameL pl ts ts = true := by
  unfold sameL
  simp only [decide_true, Bool.true_and, List.all_eq_true]
  intro i _
  rcases ts[i]? with _ | p
  · rfl
  · simp [tokEq]
theorem scan_len : ∀ (n : Nat) (d : List UInt8) (a : Nat), d.length ≤ n → ∀ {ts : List (Tok × Nat)}, scanW d a = .ok ts → ts.length ≤ d.length + 1 ∧ ∀ p ∈ ts, p.2 ≤ a + d.length
  | n, d, a, hl, ts, h => by
    rw [scanW_eq] at h
    rcases hn : nxtL d with ⟨m, _ | ⟨t, k⟩⟩
    · rw [hn] at h
      cases h
    · rw [hn] at h
      simp only at h
      have he := nxtL_end hn
      split at h
      · injection h with h
        rw [← h]
        refine ⟨by simp, fun p hp => ?_⟩
        simp at hp
        rw [hp]
        show a + m ≤ _
        omega
      · rename_i hk
        have hk1 := he.2.resolve_left hk
        have hd : (d.drop (m + k)).length = d.length - (m + k) := List.length_drop
        cases n with
        | zero => omega
        | succ n =>
          rcases hx : scanW (d.drop (m + k)) (a + m + k) with e | us
          · rw [hx] at h
            cases h
          · rw [hx] at h
            injection h with h
            obtain ⟨h1, h2⟩ := scan_len n (d.drop (m + k)) (a + m + k) (by omega) hx
            rw [← h]
            refine ⟨by simp; omega, fun p hp => ?_⟩
            rcases List.mem_cons.1 hp with rfl | hp
            · show a + m ≤ _
              omega
            · have := h2 p hp
              omega
theorem allR_bd {l : List UInt8} {ts : List (Tok × Nat)} (h : allR l = .ok ts) : ts.length ≤ l.length + 1 ∧ ∀ p ∈ ts, p.2 ≤ l.length := by
  have := scan_len l.length l 0 (Nat.le_refl _) (allR_ok h)
  rw [Nat.zero_add] at this
  exact this

theorem own_rd {w : World} {B : Nat} {v : Value} {n : Nat} {xs : List Value} {e : TypeId} {size : Nat} (h : w.ownsRow B e size v n xs) (h0 : 0 < n) : ∃ ad c, v = .slice (some ad) n c ∧ n ≤ c ∧ ad.block < w.heap.size ∧ Rd All w (some ad) xs := by
  obtain ⟨_, _, hv2, hnc, _⟩ := own_slice h
  obtain ⟨g, cap, hv, hb, hlt⟩ := h.form h0
  subst hv
  injection hv2 with _ _ hc
  exact ⟨⟨g, 0, none⟩, cap, rfl, by rw [hc]; exact hnc, hlt, fun _ => ⟨_, rfl, trivial, hlt, h.cells (g := g) rfl⟩⟩

theorem allR_some {l : List UInt8} {ts : List (Tok × Nat)} (h : allR l = .ok ts) : 0 < ts.length := by
  obtain ⟨ts0, h1, _⟩ := scanW_join [] l.length l 0 (Nat.le_refl _) (allR_ok h)
  rw [h1]
  simp
theorem tkCells_app (a b : List (Tok × Nat)) : tkCells (a ++ b) = tkCells a ++ tkCells b := by simp [tkCells]
theorem tkCells_take (a b : List (Tok × Nat)) : (tkCells (a ++ b)).take (a.length * 4) = tkCells a := by
  rw [tkCells_app, ← tkCells_length a]
  simp

end Go.Proofs.YtpjpmlhnhcmacaaGreatDoor
