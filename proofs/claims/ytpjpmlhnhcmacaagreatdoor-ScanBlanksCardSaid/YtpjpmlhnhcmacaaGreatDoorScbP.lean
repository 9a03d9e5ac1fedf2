/- Plainly: the tokens of a text whose tokens are set apart by blanks and remarks. -/
import Derived.Test.YtpjpmlhnhcmacaaGreatDoorRnH
import Derived.Test.YtpjpmlhnhcmacaaGreatDoorScV
namespace Go.Proofs.YtpjpmlhnhcmacaaGreatDoor
open Go.RowKit

theorem runL_take_min (p : UInt8 → Bool) : ∀ (d : List UInt8) (m : Nat), runL p (d.take m) = min (runL p d) m
  | [], m => by simp [runL]
  | c :: r, 0 => by simp [runL]
  | c :: r, m + 1 => by
    rw [List.take_succ_cons, runL, runL]
    split
    · rw [runL_take_min p r m]
      omega
    · simp
theorem txtL_take : ∀ (n : Nat) (d : List UInt8), d.length ≤ n → ∀ {t : List UInt8} {k : Nat}, txtL d = some (t, k) → txtL (d.take k) = some (t, k)
  | 0, d, hl, t, k, h => by
    cases d with
    | nil => cases h
    | cons c r => simp at hl
  | n + 1, d, hl, t, k, h => by
    cases d with
    | nil => cases h
    | cons c r =>
      by_cases hc : c = 39
      · subst hc
        by_cases h0 : r[0]? = some 39
        · cases r with
          | nil => simp at h0
          | cons e q =>
            simp at h0
            subst h0
            rw [txtL_two] at h
            rcases hx : txtL q with _ | ⟨t', k'⟩
            · rw [hx] at h; cases h
            · rw [hx] at h
              cases h
              have := txtL_take n q (by simp at hl; omega) hx
              simp only [List.take_succ_cons]
              rw [txtL_two, this]
              rfl
        · rw [txtL_end h0] at h
          cases h
          rfl
      · rw [txtL_plain r hc] at h
        rcases hx : txtL r with _ | ⟨t', k'⟩
        · rw [hx] at h; cases h
        · rw [hx] at h
          cases h
          have := txtL_take n r (by simp at hl; omega) hx
          simp only [List.take_succ_cons]
          rw [txtL_plain _ hc, this]
          rfl
theorem symL_take (r : List UInt8) : symL (r.take (symL r)) = symL r := by
  have hle : symL r ≤ r.length := symTo_le r r.length
  have hlen : (r.take (symL r)).length = symL r := by rw [List.length_take]; omega
  refine symL_of ?_ fun j hj => by have := cand_le hj; omega
  rcases symTo_cand r r.length with h | h
  · exact .inl h
  · refine .inr ?_
    have hk := cand_kind h
    have h2 : (r.take (symL r)).take (symL r) = r.take (symL r) := by rw [List.take_take, Nat.min_self]
    unfold candB
    rw [h2]
    simp only [Bool.and_eq_true, decide_eq_true_eq]
    refine ⟨⟨hk, by omega⟩, ?_⟩
    generalize hm : r.take (symL r) = m at hlen ⊢
    cases m with
    | nil => rfl
    | cons c q =>
      unfold wholeB
      rw [List.getElem?_eq_none (i := symL r) (by omega)]
      simp

theorem tokL_take {d : List UInt8} {t : Tok} {k : Nat} (h : tokL d = some (t, k)) : tokL (d.take k) = some (t, k) := by
  cases d with
  | nil => cases h
  | cons c r =>
    have hw := runL_take_min wrdB (c :: r)
    have hdg := runL_take_min digB (c :: r)
    have hbn := runL_take_min binB (c :: r)
    rw [tokL] at h
    split at h
    · rename_i hc
      have hpos : 1 ≤ runL wrdB (c :: r) := by rw [runL, if_pos (let_wrd hc)]; omega
      split at h
      · cases h
      · rename_i h40
        split at h
        · rename_i hk
          cases h
          have hlt : (c :: r)[runL wrdB (c :: r)]? = some 58 := by
            unfold kwB at hk
            simp only [Bool.and_eq_true, beq_iff_eq] at hk
            exact hk.1
          generalize hn : runL wrdB (c :: r) = n at *
          have e : (c :: r).take (n + 1) = c :: r.take n := rfl
          have e2 : runL wrdB (c :: r.take n) = n := by rw [← e, hw]; omega
          have e3 : kwB (c :: r.take n) n = true := by
            rw [← e]
            unfold kwB
            rw [List.getElem?_take, if_pos (by omega), hlt, List.getElem?_take, if_neg (by omega)]
            rfl
          rw [e, tokL, if_pos hc, e2, if_neg h40, if_pos e3, ← e, List.take_take, Nat.min_self]
        · rename_i hk
          cases h
          generalize hn : runL wrdB (c :: r) = n at *
          obtain ⟨m, rfl⟩ : ∃ m, n = m + 1 := ⟨n - 1, by omega⟩
          have e : (c :: r).take (m + 1) = c :: r.take m := rfl
          have e2 : runL wrdB (c :: r.take m) = m + 1 := by rw [← e, hw]; omega
          have e3 : kwB (c :: r.take m) (m + 1) = false := by
            rw [← e]
            unfold kwB
            rw [List.getElem?_take, if_neg (by omega)]
            rfl
          rw [e, tokL, if_pos hc, e2, if_neg h40, e3, if_neg (by decide), ← e, List.take_take, Nat.min_self]
    · rename_i hc
      split at h
      · rename_i hd
        have hpos : 1 ≤ runL digB (c :: r) := by rw [runL, if_pos hd]; omega
        split at h
        · cases h
        · rename_i h9
          cases h
          generalize hn : runL digB (c :: r) = n at *
          obtain ⟨m, rfl⟩ : ∃ m, n = m + 1 := ⟨n - 1, by omega⟩
          have e : (c :: r).take (m + 1) = c :: r.take m := rfl
          have e2 : runL digB (c :: r.take m) = m + 1 := by rw [← e, hdg]; omega
          rw [e, tokL, if_neg hc, if_pos hd, e2, if_neg h9, ← e, List.take_take, Nat.min_self]
      · rename_i hd
        split at h
        · rename_i h39
          rcases hx : txtL r with _ | ⟨t', k'⟩
          · rw [hx] at h; cases h
          · rw [hx] at h
            cases h
            rw [List.take_succ_cons, tokL, if_neg hc, if_neg hd, if_pos h39, txtL_take _ r (Nat.le_refl _) hx]
            rfl
        · rename_i h39
          split at h
          · rename_i h35
            split at h
            · cases h
            · rename_i h0
              cases h
              rw [List.take_succ_cons, tokL, if_neg hc, if_neg hd, if_neg h39, if_pos h35, symL_take, if_neg h0, List.take_take, Nat.min_self]
          · rename_i h35
            split at h
            · rename_i hme
              cases h
              obtain ⟨rfl, h61⟩ := hme
              cases r with
              | nil => cases h61
              | cons e q =>
                cases h61
                rfl
            · rename_i hme
              split at h
              · rename_i hmk
                cases h
                rw [List.take_succ_cons, tokL, if_neg hc, if_neg hd, if_neg h39, if_neg h35, if_neg (by simp), if_pos hmk]
              · rename_i hmk
                split at h
                · cases h
                · rename_i hb0
                  cases h
                  generalize hn : runL binB (c :: r) = n at *
                  obtain ⟨m, hm⟩ : ∃ m, min 2 n = m + 1 := ⟨min 2 n - 1, by omega⟩
                  rw [hm]
                  have e : (c :: r).take (m + 1) = c :: r.take m := rfl
                  have e2 : runL binB (c :: r.take m) = m + 1 := by rw [← e, hbn]; omega
                  have e3 : ¬ (c = 58 ∧ (r.take m)[0]? = some 61) := by
                    rintro ⟨h1, h2⟩
                    refine hme ⟨h1, ?_⟩
                    rw [List.getElem?_take] at h2
                    split at h2
                    · exact h2
                    · cases h2
                  rw [e, tokL, if_neg hc, if_neg hd, if_neg h39, if_neg h35, if_neg e3, if_neg hmk, e2, if_neg (by omega), Nat.min_eq_right (by omega), ← e, List.take_take, Nat.min_self]

theorem tokL_head {c : UInt8} {r : List UInt8} {x : Tok × Nat} (h : tokL (c :: r) = some x) : blankL.contains c = false ∧ c ≠ 34 := by
  have key : ∀ d : UInt8, letB d = false → digB d = false → d ≠ 39 → d ≠ 35 → d ≠ 58 → markL.contains d = false → binB d = false → c ≠ d := by
    rintro d h1 h2 h3 h4 h5 h6 h7 rfl
    rw [tokL, h1, h2, if_neg (by decide), if_neg (by decide), if_neg h3, if_neg h4, if_neg (fun h => h5 h.1), h6, if_neg (by decide), runL, h7] at h
    simp at h
  have k1 := key 32 (by decide) (by decide) (by decide) (by decide) (by decide) (by decide) (by decide)
  have k2 := key 9 (by decide) (by decide) (by decide) (by decide) (by decide) (by decide) (by decide)
  have k3 := key 10 (by decide) (by decide) (by decide) (by decide) (by decide) (by decide) (by decide)
  have k4 := key 13 (by decide) (by decide) (by decide) (by decide) (by decide) (by decide) (by decide)
  have k5 := key 34 (by decide) (by decide) (by decide) (by decide) (by decide) (by decide) (by decide)
  exact ⟨by simp [blankL, k1, k2, k3, k4], k5⟩

/-- Each token stands at its place. -/
theorem scan_at : ∀ (n : Nat) (d : List UInt8) (a : Nat), d.length ≤ n → ∀ {ts : List (Tok × Nat)}, scanW d a = .ok ts →
    ∃ ts0 e, ts = ts0 ++ [((⟨0, [], 0⟩ : Tok), e)] ∧ ∀ p ∈ ts0, a ≤ p.2 ∧ ∃ k, tokL (d.drop (p.2 - a)) = some (p.1, k) ∧ p.2 + k ≤ a + d.length
  | n, d, a, hl, ts, h => by
    rw [scanW_eq] at h
    rcases hn : nxtL d with ⟨m, _ | ⟨t, k⟩⟩
    · rw [hn] at h
      cases h
    · rw [hn] at h
      simp only at h
      have he := nxtL_end hn
      split at h
      · rename_i hk
        injection h with h
        have ht := (nxtL_skip d [] hn hk).1
        refine ⟨[], a + m, ?_, by simp⟩
        rw [← h, ht]
        rfl
      · rename_i hk
        have hk1 := he.2.resolve_left hk
        have hd : (d.drop (m + k)).length = d.length - (m + k) := List.length_drop
        have htk : tokL (d.drop m) = some (t, k) := by
          unfold nxtL at hn
          split at hn
          · split at hn
            · injection hn with _ h2
              injection h2 with h2
              injection h2 with h2 _
              exact absurd (by rw [← h2]) hk
            · injection hn with h1 h2
              rw [← h1]
              exact h2
          · cases hn
        cases n with
        | zero => omega
        | succ n =>
          rcases hx : scanW (d.drop (m + k)) (a + m + k) with e | us
          · rw [hx] at h
            cases h
          · rw [hx] at h
            injection h with h
            obtain ⟨ts0, e, h1, h2⟩ := scan_at n (d.drop (m + k)) (a + m + k) (by omega) hx
            refine ⟨(t, a + m) :: ts0, e, by rw [← h, h1]; rfl, fun p hp => ?_⟩
            rcases List.mem_cons.1 hp with rfl | hp
            · exact ⟨by simp, k, by rw [show (t, a + m).2 - a = m by simp]; exact htk, by simp; omega⟩
            · obtain ⟨h3, k', h4, h5⟩ := h2 p hp
              refine ⟨by omega, k', ?_, by omega⟩
              rw [List.drop_drop, show m + k + (p.2 - (a + m + k)) = p.2 - a by omega] at h4
              exact h4

/-- How far the token at a place goes. -/
def kAt (l : List UInt8) (a : Nat) : Nat := match tokL (l.drop a) with | some (_, k) => k | none => 0
def pieceL (l r : List UInt8) (a : Nat) : List UInt8 := (l.drop a).take (kAt l a) ++ [10, 34] ++ r ++ [34, 32]
def partsL (l r : List UInt8) (ts : List (Tok × Nat)) : List UInt8 := ts.flatMap fun p => pieceL l r p.2

theorem scan_parts {l r : List UInt8} (hr : ∀ c ∈ r, c ≠ 34) : ∀ (ts : List (Tok × Nat)) (a : Nat), (∀ p ∈ ts, ∃ k, tokL (l.drop p.2) = some (p.1, k)) →
    ∃ us, scanW (partsL l r ts) a = .ok us ∧ us.map (·.1) = ts.map (·.1) ++ [(⟨0, [], 0⟩ : Tok)]
  | [], a, _ => ⟨_, scanW_nil a, rfl⟩
  | p :: ts, a, h => by
    obtain ⟨k, hk⟩ := h p (List.mem_cons_self ..)
    have hka : kAt l p.2 = k := by unfold kAt; rw [hk]
    have hl := tokL_len hk
    have hpt := tokL_take hk
    have hlen : ((l.drop p.2).take k).length = k := by rw [List.length_take]; omega
    obtain ⟨us, h1, h2⟩ := scan_parts hr ts (a + k + 1 + (r.length + 2) + 1) (fun q hq => h q (List.mem_cons_of_mem _ hq))
    generalize hd : (l.drop p.2).take k = d at hpt hlen
    have e : partsL l r (p :: ts) = d ++ 10 :: (34 :: (r ++ 34 :: (32 :: partsL l r ts))) := by
      rw [partsL, List.flatMap_cons, pieceL, hka, hd]
      simp [partsL]
    have happ := tokL_app d (34 :: (r ++ 34 :: (32 :: partsL l r ts))) hpt
    cases d with
    | nil => cases hpt
    | cons c q =>
      have hh := tokL_head hpt
      rw [List.cons_append] at happ
      refine ⟨(p.1, a) :: us, ?_, by rw [List.map_cons, h2]; rfl⟩
      rw [e, List.cons_append, scanW_tok hh.1 hh.2, happ]
      simp only
      rw [← List.cons_append, ← hlen, List.drop_left, scanW_blank (by decide), scanW_rem hr, scanW_blank (by decide), hlen, show a + k + 1 + r.length + 2 + 1 = a + k + 1 + (r.length + 2) + 1 by omega, h1]
      rfl

theorem sameL_fst {us ts : List (Tok × Nat)} (h : us.map (·.1) = ts.map (·.1)) : sameL false us ts = true := by
  have hl : us.length = ts.length := by have := congrArg List.length h; simpa using this
  unfold sameL
  rw [decide_eq_true hl, Bool.true_and, List.all_eq_true]
  intro i hi
  simp at hi
  have h1 : us[i]? = some (us[i]'hi) := List.getElem?_eq_getElem hi
  have h2 : ts[i]? = some (ts[i]'(by omega)) := List.getElem?_eq_getElem (by omega)
  rw [h1, h2]
  have h3 : (us.map (·.1))[i]? = (ts.map (·.1))[i]? := by rw [h]
  rw [List.getElem?_map, List.getElem?_map, h1, h2] at h3
  injection h3 with h3
  simp [tokEq, h3]
theorem pieces_len {l r : List UInt8} (hl : l.length ≤ 300) (hr : r.length ≤ 20) : ∀ ts : List (Tok × Nat), (partsL l r ts).length ≤ ts.length * 324
  | [] => by simp [partsL]
  | p :: ts => by
    have h1 := pieces_len hl hr ts
    have h2 : ((l.drop p.2).take (kAt l p.2)).length ≤ 300 := by rw [List.length_take, List.length_drop]; omega
    have h3 : (pieceL l r p.2).length ≤ 324 := by
      unfold pieceL
      simp only [List.length_append, List.length_cons, List.length_nil]
      omega
    unfold partsL at h1 ⊢
    rw [List.flatMap_cons, List.length_append, List.length_cons]
    omega
end Go.Proofs.YtpjpmlhnhcmacaaGreatDoor
