/- Parts of the proof of ScanStreams, joined: ScbP ScsP. -/
import Derived.Test.YtefloadjolpgbaaGreatDoorScanStreamsj4
namespace Go.Proofs.YtefloadjolpgbaaGreatDoor
open Go.RowKit

theorem runL_take_min (p : UInt8 → Bool) : ∀ (d : List UInt8) (m : Nat), runL p (d.take m) = min (runL p d) m
  | [], m => by simp [runL]
  | c :: r, 0 => by simp [runL]
  | c :: r, m + 1 => by
    rw [List.take_succ_cons, runL, runL]
    split
    · rw [runL_take_min p r m]
      omega
    · simp
theorem txtL_take : ∀ (n : Nat) (d : List UInt8), d.length ≤ n → ∀ {t : List UInt8} {k : Nat}, txtL d = some (t, k) → txtL (d.take k) = some (t, k)
  | 0, d, hl, t, k, h => by
    cases d with
    | nil => cases h
    | cons c r => simp at hl
  | n + 1, d, hl, t, k, h => by
    cases d with
    | nil => cases h
    | cons c r =>
      by_cases hc : c = 39
      · subst hc
        by_cases h0 : r[0]? = some 39
        · cases r with
          | nil => simp at h0
          | cons e q =>
            simp at h0
            subst h0
            rw [txtL_two] at h
            rcases hx : txtL q with _ | ⟨t', k'⟩
            · rw [hx] at h; cases h
            · rw [hx] at h
              cases h
              have := txtL_take n q (by simp at hl; omega) hx
              simp only [List.take_succ_cons]
              rw [txtL_two, this]
              rfl
        · rw [txtL_end h0] at h
          cases h
          rfl
      · rw [txtL_plain r hc] at h
        rcases hx : txtL r with _ | ⟨t', k'⟩
        · rw [hx] at h; cases h
        · rw [hx] at h
          cases h
          have := txtL_take n r (by simp at hl; omega) hx
          simp only [List.take_succ_cons]
          rw [txtL_plain _ hc, this]
          rfl
theorem symL_take (r : List UInt8) : symL (r.take (symL r)) = symL r := by
  have hle : symL r ≤ r.length := symTo_le r r.length
  have hlen : (r.take (symL r)).length = symL r := by rw [List.length_take]; omega
  refine symL_of ?_ fun j hj => by have := cand_le hj; omega
  rcases symTo_cand r r.length with h | h
  · exact .inl h
  · refine .inr ?_
    have hk := cand_kind h
    have h2 : (r.take (symL r)).take (symL r) = r.take (symL r) := by rw [List.take_take, Nat.min_self]
    unfold candB
    rw [h2]
    simp only [Bool.and_eq_true, decide_eq_true_eq]
    refine ⟨⟨hk, by omega⟩, ?_⟩
    generalize hm : r.take (symL r) = m at hlen ⊢
    cases m with
    | nil => rfl
    | cons c q =>
      unfold wholeB
      rw [List.getElem?_eq_none (i := symL r) (by omega)]
      simp

theorem tokL_take {d : List UInt8} {t : Tok} {k : Nat} (h : tokL d = some (t, k)) : tokL (d.take k) = some (t, k) := by
  cases d with
  | nil => cases h
  | cons c r =>
    have hw := runL_take_min wrdB (c :: r)
    have hdg := runL_take_min digB (c :: r)
    have hbn := runL_take_min binB (c :: r)
    rw [tokL] at h
    split at h
    · rename_i hc
      have hpos : 1 ≤ runL wrdB (c :: r) := by rw [runL, if_pos (let_wrd hc)]; omega
      split at h
      · cases h
      · rename_i h40
        split at h
        · rename_i hk
          cases h
          have hlt : (c :: r)[runL wrdB (c :: r)]? = some 58 := by
            unfold kwB at hk
            simp only [Bool.and_eq_true, beq_iff_eq] at hk
            exact hk.1
          generalize hn : runL wrdB (c :: r) = n at *
          have e : (c :: r).take (n + 1) = c :: r.take n := rfl
          have e2 : runL wrdB (c :: r.take n) = n := by rw [← e, hw]; omega
          have e3 : kwB (c :: r.take n) n = true := by
            rw [← e]
            unfold kwB
            rw [List.getElem?_take, if_pos (by omega), hlt, List.getElem?_take, if_neg (by omega)]
            rfl
          rw [e, tokL, if_pos hc, e2, if_neg h40, if_pos e3, ← e, List.take_take, Nat.min_self]
        · rename_i hk
          cases h
          generalize hn : runL wrdB (c :: r) = n at *
          obtain ⟨m, rfl⟩ : ∃ m, n = m + 1 := ⟨n - 1, by omega⟩
          have e : (c :: r).take (m + 1) = c :: r.take m := rfl
          have e2 : runL wrdB (c :: r.take m) = m + 1 := by rw [← e, hw]; omega
          have e3 : kwB (c :: r.take m) (m + 1) = false := by
            rw [← e]
            unfold kwB
            rw [List.getElem?_take, if_neg (by omega)]
            rfl
          rw [e, tokL, if_pos hc, e2, if_neg h40, e3, if_neg (by decide), ← e, List.take_take, Nat.min_self]
    · rename_i hc
      split at h
      · rename_i hd
        have hpos : 1 ≤ runL digB (c :: r) := by rw [runL, if_pos hd]; omega
        split at h
        · cases h
        · rename_i h9
          cases h
          generalize hn : runL digB (c :: r) = n at *
          obtain ⟨m, rfl⟩ : ∃ m, n = m + 1 := ⟨n - 1, by omega⟩
          have e : (c :: r).take (m + 1) = c :: r.take m := rfl
          have e2 : runL digB (c :: r.take m) = m + 1 := by rw [← e, hdg]; omega
          rw [e, tokL, if_neg hc, if_pos hd, e2, if_neg h9, ← e, List.take_take, Nat.min_self]
      · rename_i hd
        split at h
        · rename_i h39
          rcases hx : txtL r with _ | ⟨t', k'⟩
          · rw [hx] at h; cases h
          · rw [hx] at h
            cases h
            rw [List.take_succ_cons, tokL, if_neg hc, if_neg hd, if_pos h39, txtL_take _ r (Nat.le_refl _) hx]
            rfl
        · rename_i h39
          split at h
          · rename_i h35
            split at h
            · cases h
            · rename_i h0
              cases h
              rw [List.take_succ_cons, tokL, if_neg hc, if_neg hd, if_neg h39, if_pos h35, symL_take, if_neg h0, List.take_take, Nat.min_self]
          · rename_i h35
            split at h
            · rename_i hme
              cases h
              obtain ⟨rfl, h61⟩ := hme
              cases r with
              | nil => cases h61
              | cons e q =>
                cases h61
                rfl
            · rename_i hme
              split at h
              · rename_i hmk
                cases h
                rw [List.take_succ_cons, tokL, if_neg hc, if_neg hd, if_neg h39, if_neg h35, if_neg (by simp), if_pos hmk]
              · rename_i hmk
                split at h
                · cases h
                · rename_i hb0
                  cases h
                  generalize hn : runL binB (c :: r) = n at *
                  obtain ⟨m, hm⟩ : ∃ m, min 2 n = m + 1 := ⟨min 2 n - 1, by omega⟩
                  rw [hm]
                  have e : (c :: r).take (m + 1) = c :: r.take m := rfl
                  have e2 : runL binB (c :: r.take m) = m + 1 := by rw [← e, hbn]; omega
                  have e3 : ¬ (c = 58 ∧ (r.take m)[0]? = some 61) := by
                    rintro ⟨h1, h2⟩
                    refine hme ⟨h1, ?_⟩
                    rw [List.getElem?_take] at h2
                    split at h2
                    · exact h2
                    · cases h2
                  rw [e, tokL, if_neg hc, if_neg hd, if_neg h39, if_neg h35, if_neg e3, if_neg hmk, e2, if_neg (by omega), Nat.min_eq_right (by omega), ← e, List.take_take, Nat.min_self]

theorem tokL_head {c : UInt8} {r : List UInt8} {x : Tok × Nat} (h : tokL (c :: r) = some x) : blankL.contains c = false ∧ c ≠ 34 := by
  have key : ∀ d : UInt8, letB d = false → digB d = false → d ≠ 39 → d ≠ 35 → d ≠ 58 → markL.contains d = false → binB d = false → c ≠ d := by
    rintro d h1 h2 h3 h4 h5 h6 h7 rfl
    rw [tokL, h1, h2, if_neg (by decide), if_neg (by decide), if_neg h3, if_neg h4, if_neg (fun h => h5 h.1), h6, if_neg (by decide), runL, h7] at h
    simp at h
  have k1 := key 32 (by decide) (by decide) (by decide) (by decide) (by decide) (by decide) (by decide)
  have k2 := key 9 (by decide) (by decide) (by decide) (by decide) (by decide) (by decide) (by decide)
  have k3 := key 10 (by decide) (by decide) (by decide) (by decide) (by decide) (by decide) (by decide)
  have k4 := key 13 (by decide) (by decide) (by decide) (by decide) (by decide) (by decide) (by decide)
  have k5 := key 34 (by decide) (by decide) (by decide) (by decide) (by decide) (by decide) (by decide)
  exact ⟨by simp [blankL, k1, k2, k3, k4], k5⟩

/-- Each token stands at its place. -/
theorem scan_at : ∀ (n : Nat) (d : List UInt8) (a : Nat), d.length ≤ n → ∀ {ts : List (Tok × Nat)}, scanW d a = .ok ts →
    ∃ ts0 e, ts = ts0 ++ [((⟨0, [], 0⟩ : Tok), e)] ∧ ∀ p ∈ ts0, a ≤ p.2 ∧ ∃ k, tokL (d.drop (p.2 - a)) = some (p.1, k) ∧ p.2 + k ≤ a + d.length
  | n, d, a, hl, ts, h => by
    rw [scanW_eq] at h
    rcases hn : nxtL d with ⟨m, _ | ⟨t, k⟩⟩
    · rw [hn] at h
      cases h
    · rw [hn] at h
      simp only at h
      have he := nxtL_end hn
      split at h
      · rename_i hk
        injection h with h
        have ht := (nxtL_skip d [] hn hk).1
        refine ⟨[], a + m, ?_, by simp⟩
        rw [← h, ht]
        rfl
      · rename_i hk
        have hk1 := he.2.resolve_left hk
        have hd : (d.drop (m + k)).length = d.length - (m + k) := List.length_drop
        have htk : tokL (d.drop m) = some (t, k) := by
          unfold nxtL at hn
          split at hn
          · split at hn
            · injection hn with _ h2
              injection h2 with h2
              injection h2 with h2 _
              exact absurd (by rw [← h2]) hk
            · injection hn with h1 h2
              rw [← h1]
              exact h2
          · cases hn
        cases n with
        | zero => omega
        | succ n =>
          rcases hx : scanW (d.drop (m + k)) (a + m + k) with e | us
          · rw [hx] at h
            cases h
          · rw [hx] at h
            injection h with h
            obtain ⟨ts0, e, h1, h2⟩ := scan_at n (d.drop (m + k)) (a + m + k) (by omega) hx
            refine ⟨(t, a + m) :: ts0, e, by rw [← h, h1]; rfl, fun p hp => ?_⟩
            rcases List.mem_cons.1 hp with rfl | hp
            · exact ⟨by simp, k, by rw [show (t, a + m).2 - a = m by simp]; exact htk, by simp; omega⟩
            · obtain ⟨h3, k', h4, h5⟩ := h2 p hp
              refine ⟨by omega, k', ?_, by omega⟩
              rw [List.drop_drop, show m + k + (p.2 - (a + m + k)) = p.2 - a by omega] at h4
              exact h4

/-- How far the token at a place goes. -/
def kAt (l : List UInt8) (a : Nat) : Nat := match tokL (l.drop a) with | some (_, k) => k | none => 0
def pieceL (l r : List UInt8) (a : Nat) : List UInt8 := (l.drop a).take (kAt l a) ++ [10, 34] ++ r ++ [34, 32]
def partsL (l r : List UInt8) (ts : List (Tok × Nat)) : List UInt8 := ts.flatMap fun p => pieceL l r p.2

theorem scan_parts {l r : List UInt8} (hr : ∀ c ∈ r, c ≠ 34) : ∀ (ts : List (Tok × Nat)) (a : Nat), (∀ p ∈ ts, ∃ k, tokL (l.drop p.2) = some (p.1, k)) →
    ∃ us, scanW (partsL l r ts) a = .ok us ∧ us.map (·.1) = ts.map (·.1) ++ [(⟨0, [], 0⟩ : Tok)]
  | [], a, _ => ⟨_, scanW_nil a, rfl⟩
  | p :: ts, a, h => by
    obtain ⟨k, hk⟩ := h p (List.mem_cons_self ..)
    have hka : kAt l p.2 = k := by unfold kAt; rw [hk]
    have hl := tokL_len hk
    have hpt := tokL_take hk
    have hlen : ((l.drop p.2).take k).length = k := by rw [List.length_take]; omega
    obtain ⟨us, h1, h2⟩ := scan_parts hr ts (a + k + 1 + (r.length + 2) + 1) (fun q hq => h q (List.mem_cons_of_mem _ hq))
    generalize hd : (l.drop p.2).take k = d at hpt hlen
    have e : partsL l r (p :: ts) = d ++ 10 :: (34 :: (r ++ 34 :: (32 :: partsL l r ts))) := by
      rw [partsL, List.flatMap_cons, pieceL, hka, hd]
      simp [partsL]
    have happ := tokL_app d (34 :: (r ++ 34 :: (32 :: partsL l r ts))) hpt
    cases d with
    | nil => cases hpt
    | cons c q =>
      have hh := tokL_head hpt
      rw [List.cons_append] at happ
      refine ⟨(p.1, a) :: us, ?_, by rw [List.map_cons, h2]; rfl⟩
      rw [e, List.cons_append, scanW_tok hh.1 hh.2, happ]
      simp only
      rw [← List.cons_append, ← hlen, List.drop_left, scanW_blank (by decide), scanW_rem hr, scanW_blank (by decide), hlen, show a + k + 1 + r.length + 2 + 1 = a + k + 1 + (r.length + 2) + 1 by omega, h1]
      rfl

theorem sameL_fst {us ts : List (Tok × Nat)} (h : us.map (·.1) = ts.map (·.1)) : sameL false us ts = true := by
  have hl : us.length = ts.length := by have := congrArg List.length h; simpa using this
  unfold sameL
  rw [decide_eq_true hl, Bool.true_and, List.all_eq_true]
  intro i hi
  simp at hi
  have h1 : us[i]? = some (us[i]'hi) := List.getElem?_eq_getElem hi
  have h2 : ts[i]? = some (ts[i]'(by omega)) := List.getElem?_eq_getElem (by omega)
  rw [h1, h2]
  have h3 : (us.map (·.1))[i]? = (ts.map (·.1))[i]? := by rw [h]
  rw [List.getElem?_map, List.getElem?_map, h1, h2] at h3
  injection h3 with h3
  simp [tokEq, h3]
theorem pieces_len {l r : List UInt8} (hl : l.length ≤ 300) (hr : r.length ≤ 20) : ∀ ts : List (Tok × Nat), (partsL l r ts).length ≤ ts.length * 324
  | [] => by simp [partsL]
  | p :: ts => by
    have h1 := pieces_len hl hr ts
    have h2 : ((l.drop p.2).take (kAt l p.2)).length ≤ 300 := by rw [List.length_take, List.length_drop]; omega
    have h3 : (pieceL l r p.2).length ≤ 324 := by
      unfold pieceL
      simp only [List.length_append, List.length_cons, List.length_nil]
      omega
    unfold partsL at h1 ⊢
    rw [List.flatMap_cons, List.length_append, List.length_cons]
    omega
end Go.Proofs.YtefloadjolpgbaaGreatDoor

namespace Go.Proofs.YtefloadjolpgbaaGreatDoor
open Go.RowKit

theorem txtL_takeq : ∀ (n : Nat) (d : List UInt8), d.length ≤ n → ∀ {t : List UInt8} {k q : Nat}, txtL d = some (t, k) → k ≤ q → txtL (d.take q) = some (t, k)
  | 0, d, hl, t, k, q, h, hq => by
    cases d with
    | nil => cases h
    | cons c r => simp at hl
  | n + 1, d, hl, t, k, q, h, hq => by
    cases d with
    | nil => cases h
    | cons c r =>
      by_cases hc : c = 39
      · subst hc
        by_cases h0 : r[0]? = some 39
        · cases r with
          | nil => simp at h0
          | cons e r2 =>
            simp at h0
            subst h0
            rw [txtL_two] at h
            rcases hx : txtL r2 with _ | ⟨t', k'⟩
            · rw [hx] at h; cases h
            · rw [hx] at h
              cases h
              obtain ⟨q', rfl⟩ : ∃ q', q = q' + 2 := ⟨q - 2, by omega⟩
              have := txtL_takeq n r2 (by simp at hl; omega) hx (q := q') (by omega)
              simp only [List.take_succ_cons]
              rw [txtL_two, this]
              rfl
        · rw [txtL_end h0] at h
          cases h
          obtain ⟨q', rfl⟩ : ∃ q', q = q' + 1 := ⟨q - 1, by omega⟩
          rw [List.take_succ_cons, txtL_end]
          rw [List.getElem?_take]
          split
          · exact h0
          · simp
      · rw [txtL_plain r hc] at h
        rcases hx : txtL r with _ | ⟨t', k'⟩
        · rw [hx] at h; cases h
        · rw [hx] at h
          cases h
          obtain ⟨q', rfl⟩ : ∃ q', q = q' + 1 := ⟨q - 1, by omega⟩
          have := txtL_takeq n r (by simp at hl; omega) hx (q := q') (by omega)
          simp only [List.take_succ_cons]
          rw [txtL_plain _ hc, this]
          rfl

theorem cand_take {r : List UInt8} {j q : Nat} (hj : j < q) : candB (r.take q) j = candB r j := by
  unfold candB
  have h1 : (r.take q).take j = r.take j := by rw [List.take_take, Nat.min_eq_left (by omega)]
  have h2 : decide (j ≤ (r.take q).length) = decide (j ≤ r.length) := by
    rw [List.length_take]
    by_cases h : j ≤ r.length
    · rw [decide_eq_true h, decide_eq_true (by omega)]
    · rw [decide_eq_false h, decide_eq_false (by omega)]
  have h3 : wholeB (r.take q) j = wholeB r j := by
    obtain ⟨q', rfl⟩ : ∃ q', q = q' + 1 := ⟨q - 1, by omega⟩
    cases r with
    | nil => simp
    | cons c s =>
      have h4 : ((c :: s).take (q' + 1))[j]? = (c :: s)[j]? := by rw [List.getElem?_take, if_pos hj]
      have h5 : ((c :: s).take (q' + 1))[j - 1]? = (c :: s)[j - 1]? := by rw [List.getElem?_take, if_pos (by omega)]
      rw [List.take_succ_cons] at h4 h5 ⊢
      unfold wholeB
      simp only
      rw [h4, h5]
  rw [h1, h2, h3]

theorem lower_all {l : List UInt8} (h : nmIs l = true) : ∀ c ∈ l, wrdB c = true := by
  unfold nmIs at h
  simp only [Bool.and_eq_true] at h
  exact List.all_eq_true.1 h.1.2

/-- The longest selector is the same in what is cut behind it. -/
theorem symL_takeq {r : List UInt8} {q : Nat} (h0 : symL r ≠ 0) (hq : symL r ≤ q) : symL (r.take q) = symL r := by
  rcases Nat.lt_or_ge q r.length with hqr | hqr
  · rcases Nat.eq_or_lt_of_le hq with he | hlt
    · rw [← he]; exact symL_take r
    have hc : candB r (symL r) = true := (symTo_cand r r.length).resolve_left h0
    refine symL_of (.inr (by rw [cand_take hlt]; exact hc)) fun j hj => ?_
    rcases Nat.lt_or_ge j q with hjq | hjq
    · rw [cand_take hjq] at hj
      exact symTo_most r r.length j (cand_le hj) hj
    · have hjl := cand_le hj
      rw [List.length_take] at hjl
      obtain rfl : j = q := by omega
      -- a selector of just this length: it would have been one, or it is within a word
      rcases hcj : candB r j with _ | _
      · exfalso
        have hk := cand_kind hj
        rw [List.take_take, Nat.min_self] at hk
        have hw : wholeB r j = false := by
          unfold candB at hcj
          rw [decide_eq_true hk, decide_eq_true (by omega : j ≤ r.length)] at hcj
          simpa using hcj
        cases r with
        | nil => simp at hqr
        | cons c s =>
          unfold wholeB at hw
          simp only [Bool.or_eq_false_iff, Bool.not_eq_false'] at hw
          obtain ⟨⟨hlc, h58⟩, hnx⟩ := hw
          -- all are of a word
          have hall : ∀ x ∈ (c :: s).take j, wrdB x = true := by
            have hml : ((c :: s).take j).length = j := by rw [List.length_take]; omega
            have hj0 : 0 < j := by omega
            have h58' : ((c :: s).take j)[j - 1]? ≠ some 58 := by
              rw [List.getElem?_take, if_pos (by omega)]
              intro he
              rw [he] at h58
              simp at h58
            have hcm : c ∈ (c :: s).take j := by
              obtain ⟨i, rfl⟩ : ∃ i, j = i + 1 := ⟨j - 1, by omega⟩
              simp
            generalize (c :: s).take j = m at hk hml h58' hcm ⊢
            unfold nmKind at hk
            split at hk
            · rename_i hlow
              unfold nmLower at hlow
              simp only [Bool.and_eq_true] at hlow
              exact lower_all hlow.1
            · split at hk
              · rename_i _ hbin
                unfold nmBin at hbin
                simp only [Bool.and_eq_true] at hbin
                have hb := List.all_eq_true.1 hbin.2 c hcm
                exact absurd hb (by
                  unfold binB binL
                  intro hb
                  simp at hb
                  revert hlc
                  rcases hb with rfl | rfl | rfl | rfl | rfl | rfl | rfl | rfl | rfl | rfl | rfl | rfl <;> decide)
              · split at hk
                · rename_i _ _ hkw
                  exfalso
                  have hjn := kw_join hkw
                  have hpt := (kw_parts hkw).2.1
                  refine h58' ?_
                  obtain ⟨ps, p, hps⟩ : ∃ ps p, (splitC m).1 = ps ++ [p] := ⟨_, _, (List.dropLast_concat_getLast (by intro h; rw [h] at hpt; simp at hpt)).symm⟩
                  rw [hps, List.flatMap_append] at hjn
                  simp only [List.flatMap_cons, List.flatMap_nil, List.append_nil] at hjn
                  rw [← List.append_assoc] at hjn
                  rw [← hml, hjn]
                  simp
                · omega
          have hck : wholeB (c :: s) (symL (c :: s)) = true := by
            unfold candB at hc
            simp only [Bool.and_eq_true] at hc
            exact hc.2
          unfold wholeB at hck
          simp only [Bool.or_eq_true, Bool.not_eq_true'] at hck
          have hpos : 0 < symL (c :: s) := by omega
          have hm : ∀ i, i < j → ∃ x, (c :: s)[i]? = some x ∧ wrdB x = true := fun i hi => by
            obtain ⟨x, hx⟩ : ∃ x, (c :: s)[i]? = some x := ⟨_, List.getElem?_eq_getElem (by omega)⟩
            exact ⟨x, hx, hall x (List.mem_of_getElem? (by rw [List.getElem?_take, if_pos hi]; exact hx : ((c :: s).take j)[i]? = some x))⟩
          rcases hck with (h | h) | h
          · rw [hlc] at h; cases h
          · obtain ⟨x, hx, hwx⟩ := hm (symL (c :: s) - 1) (by omega)
            rw [hx] at h
            simp at h
            subst h
            revert hwx
            decide
          · obtain ⟨x, hx, hwx⟩ := hm (symL (c :: s)) hlt
            rw [hx] at h
            simp only at h
            rw [hwx] at h
            cases h
      · exact symTo_most r r.length j (by omega) hcj
  · rw [List.take_of_length_le hqr]

/-- A token is the same in what is cut behind it, but ahead of a sign of equality. -/
theorem tokL_takeq {d : List UInt8} {t : Tok} {k q : Nat} (h : tokL d = some (t, k)) (hkq : k ≤ q) (h61 : d[q]? ≠ some 61) : tokL (d.take q) = some (t, k) := by
  rcases Nat.eq_or_lt_of_le hkq with he | hlt
  · rw [← he]; exact tokL_take h
  cases d with
  | nil => cases h
  | cons c r =>
    obtain ⟨q', rfl⟩ : ∃ q', q = q' + 1 := ⟨q - 1, by omega⟩
    have hw := runL_take_min wrdB (c :: r) (q' + 1)
    have hdg := runL_take_min digB (c :: r) (q' + 1)
    have hbn := runL_take_min binB (c :: r) (q' + 1)
    have htk : ∀ j, j ≤ q' + 1 → ((c :: r).take (q' + 1)).take j = (c :: r).take j := fun j hj => by rw [List.take_take, Nat.min_eq_left hj]
    have hgt : ∀ j, j < q' + 1 → ((c :: r).take (q' + 1))[j]? = (c :: r)[j]? := fun j hj => by rw [List.getElem?_take, if_pos hj]
    rw [List.take_succ_cons] at hw hdg hbn htk hgt ⊢
    rw [tokL] at h ⊢
    split at h
    · rename_i hc
      rw [if_pos hc]
      have hpos : 1 ≤ runL wrdB (c :: r) := by rw [runL, if_pos (let_wrd hc)]; omega
      split at h
      · cases h
      · rename_i h40
        split at h
        · rename_i hk
          cases h
          generalize hn : runL wrdB (c :: r) = n at *
          have hk2 : kwB (c :: r.take q') n = true := by
            unfold kwB at hk ⊢
            rw [hgt n (by omega), hgt (n + 1) (by omega)]
            exact hk
          rw [hw, Nat.min_eq_left (by omega), if_neg h40, hk2, if_pos rfl, htk _ (by omega)]
        · rename_i hk
          cases h
          generalize hn : runL wrdB (c :: r) = n at *
          have hk2 : ¬ kwB (c :: r.take q') n = true := by
            intro hx
            apply hk
            unfold kwB at hx ⊢
            rw [hgt n (by omega)] at hx
            rcases Nat.lt_or_ge (n + 1) (q' + 1) with h1 | h1
            · rw [hgt (n + 1) h1] at hx
              exact hx
            · have h2 : q' = n := by omega
              subst h2
              simp only [Bool.and_eq_true, beq_iff_eq] at hx
              rw [hx.1]
              simp only [BEq.rfl, Bool.true_and, Bool.not_eq_true']
              rcases he : (c :: r)[q' + 1]? == some 61 with _ | _
              · rfl
              · exact absurd (by simpa using he) h61
          rw [hw, Nat.min_eq_left (by omega), if_neg h40, if_neg hk2, htk _ (by omega)]
    · rename_i hc
      rw [if_neg hc]
      split at h
      · rename_i hd
        rw [if_pos hd]
        split at h
        · cases h
        · rename_i h9
          cases h
          generalize hn : runL digB (c :: r) = n at *
          rw [hdg, Nat.min_eq_left (by omega), if_neg h9, htk _ (by omega)]
      · rename_i hd
        rw [if_neg hd]
        split at h
        · rename_i h39
          rw [if_pos h39]
          rcases hx : txtL r with _ | ⟨t', k'⟩
          · rw [hx] at h; cases h
          · rw [hx] at h
            cases h
            rw [txtL_takeq _ r (Nat.le_refl _) hx (by omega)]
            rfl
        · rename_i h39
          rw [if_neg h39]
          split at h
          · rename_i h35
            rw [if_pos h35]
            split at h
            · cases h
            · rename_i h0
              cases h
              rw [symL_takeq h0 (by omega), if_neg h0, List.take_take, Nat.min_eq_left (by omega)]
          · rename_i h35
            rw [if_neg h35]
            split at h
            · rename_i hme
              cases h
              have : (r.take q')[0]? = some 61 := by rw [List.getElem?_take, if_pos (by omega)]; exact hme.2
              rw [if_pos ⟨hme.1, this⟩]
            · rename_i hme
              have hme2 : ¬ (c = 58 ∧ (r.take q')[0]? = some 61) := by
                rintro ⟨h1, h2⟩
                refine hme ⟨h1, ?_⟩
                rw [List.getElem?_take] at h2
                split at h2
                · exact h2
                · cases h2
              rw [if_neg hme2]
              split at h
              · rename_i hmk
                rw [if_pos hmk]
                exact h
              · rename_i hmk
                rw [if_neg hmk]
                split at h
                · cases h
                · rename_i hb0
                  cases h
                  generalize hn : runL binB (c :: r) = n at *
                  rw [hbn, if_neg (by omega), show min 2 (min n (q' + 1)) = min 2 n by omega, htk _ (by omega)]

/-! ### what stands between -/
theorem skp_ge : ∀ (d : List UInt8) (a : Nat) (st : Option Nat) {p : Nat} {b : Bool}, skp d a st = (p, b) → a ≤ p ∨ (st = some p ∧ b = false)
  | [], a, none, p, b, h => by cases h; exact .inl (Nat.le_refl _)
  | [], a, some s, p, b, h => by cases h; exact .inr ⟨rfl, rfl⟩
  | c :: r, a, none, p, b, h => by
    rw [skp] at h
    split at h
    · rcases skp_ge r (a + 1) none h with h1 | ⟨h1, _⟩
      · exact .inl (by omega)
      · cases h1
    · split at h
      · rcases skp_ge r (a + 1) (some a) h with h1 | ⟨h1, _⟩
        · exact .inl (by omega)
        · cases h1; exact .inl (Nat.le_refl _)
      · cases h; exact .inl (Nat.le_refl _)
  | c :: r, a, some s, p, b, h => by
    rw [skp] at h
    split at h
    · rcases skp_ge r (a + 1) none h with h1 | ⟨h1, _⟩
      · exact .inl (by omega)
      · cases h1
    · rcases skp_ge r (a + 1) (some s) h with h1 | ⟨h1, h2⟩
      · exact .inl (by omega)
      · cases h1; exact .inr ⟨rfl, h2⟩

theorem skp_take : ∀ (d : List UInt8) (a : Nat) (st : Option Nat) {p q : Nat} {b : Bool}, skp d a st = (p, b) → (∀ s, st = some s → s < a) → a ≤ p → (q = p - a ∨ (b = true ∧ p - a < q)) → skp (d.take q) a st = (p, true)
  | [], a, none, p, q, b, h, hs, hap, hq => by cases h; simp [skp]
  | [], a, some s, p, q, b, h, hs, hap, hq => by
    cases h
    have := hs s rfl
    omega
  | c :: r, a, none, p, q, b, h, hs, hap, hq => by
    rcases q with _ | q
    · have : p = a := by rcases hq with hq | hq <;> omega
      subst this
      simp [skp]
    have hq2 : p ≥ a + 1 → (q = p - (a + 1) ∨ (b = true ∧ p - (a + 1) < q)) := fun h1 => hq.imp (fun h => by omega) (fun h => ⟨h.1, by have := h.2; omega⟩)
    rw [List.take_succ_cons]
    rw [skp] at h ⊢
    split at h
    · rename_i hb
      rw [if_pos hb]
      have h1 : a + 1 ≤ p := by
        rcases skp_ge r (a + 1) none h with h1 | ⟨h1, _⟩
        · exact h1
        · cases h1
      exact skp_take r (a + 1) none h (fun s h => by cases h) h1 (hq2 h1)
    · rename_i hb
      rw [if_neg hb]
      split at h
      · rename_i h34
        rw [if_pos h34]
        rcases skp_ge r (a + 1) (some a) h with h1 | ⟨h1, h2⟩
        · exact skp_take r (a + 1) (some a) h (fun s h => by cases h; omega) h1 (hq2 h1)
        · cases h1
          subst h2
          rcases hq with hq | ⟨hq, _⟩
          · omega
          · cases hq
      · rename_i h34
        rw [if_neg h34]
        cases h
        rfl
  | c :: r, a, some s, p, q, b, h, hs, hap, hq => by
    have hsa := hs s rfl
    have h1 : a + 1 ≤ p := by
      rw [skp] at h
      split at h
      · rcases skp_ge r (a + 1) none h with h1 | ⟨h1, _⟩
        · exact h1
        · cases h1
      · rcases skp_ge r (a + 1) (some s) h with h1 | ⟨h1, h2⟩
        · exact h1
        · cases h1; omega
    rcases q with _ | q
    · rcases hq with hq | hq <;> omega
    have hq2 : q = p - (a + 1) ∨ (b = true ∧ p - (a + 1) < q) := hq.imp (fun h => by omega) (fun h => ⟨h.1, by have := h.2; omega⟩)
    rw [List.take_succ_cons]
    rw [skp] at h ⊢
    split at h
    · rename_i h34
      rw [if_pos h34]
      exact skp_take r (a + 1) none h (fun s h => by cases h) h1 hq2
    · rename_i h34
      rw [if_neg h34]
      exact skp_take r (a + 1) (some s) h (fun s h => by cases h; omega) h1 hq2

theorem skp_false : ∀ (d : List UInt8) (a : Nat) (st : Option Nat) {p : Nat}, skp d a st = (p, false) → (∀ s, st = some s → s < a) → a ≤ p → d[p - a]? = some 34
  | [], a, none, p, h, hs, hap => by cases h
  | [], a, some s, p, h, hs, hap => by
    cases h
    have := hs s rfl
    omega
  | c :: r, a, none, p, h, hs, hap => by
    have hc : a + 1 ≤ p → r[p - (a + 1)]? = some 34 → (c :: r)[p - a]? = some 34 := fun h1 h2 => by
      rw [show p - a = (p - (a + 1)) + 1 by omega]
      simpa using h2
    rw [skp] at h
    split at h
    · rcases skp_ge r (a + 1) none h with h1 | ⟨h1, _⟩
      · exact hc h1 (skp_false r (a + 1) none h (fun s h => by cases h) h1)
      · cases h1
    · split at h
      · rename_i h34
        rcases skp_ge r (a + 1) (some a) h with h1 | ⟨h1, h2⟩
        · exact hc h1 (skp_false r (a + 1) (some a) h (fun s h => by cases h; omega) h1)
        · cases h1
          simp [h34]
      · cases h
  | c :: r, a, some s, p, h, hs, hap => by
    have hsa := hs s rfl
    have hc : a + 1 ≤ p → r[p - (a + 1)]? = some 34 → (c :: r)[p - a]? = some 34 := fun h1 h2 => by
      rw [show p - a = (p - (a + 1)) + 1 by omega]
      simpa using h2
    rw [skp] at h
    split at h
    · rcases skp_ge r (a + 1) none h with h1 | ⟨h1, _⟩
      · exact hc h1 (skp_false r (a + 1) none h (fun s h => by cases h) h1)
      · cases h1
    · rcases skp_ge r (a + 1) (some s) h with h1 | ⟨h1, h2⟩
      · exact hc h1 (skp_false r (a + 1) (some s) h (fun s h => by cases h; omega) h1)
      · cases h1
        omega

/-- A step, in what is cut. -/
theorem nxtL_takeq {d : List UInt8} {m k q : Nat} {t : Tok} (h : nxtL d = (m, some (t, k))) (hk : 1 ≤ k) (hq : m + k ≤ q) (h61 : d[q]? ≠ some 61) : nxtL (d.take q) = (m, some (t, k)) := by
  unfold nxtL at h
  split at h
  · rename_i hs
    split at h
    · injection h with _ h2
      injection h2 with h2
      injection h2 with _ h3
      omega
    · rename_i hne
      injection h with h1 h2
      have hsk : skp d 0 none = (m, true) := by rw [← h1, ← hs]
      have hst : skp (d.take q) 0 none = (m, true) := skp_take d 0 none hsk (fun s h => by cases h) (Nat.zero_le _) (.inr ⟨rfl, by omega⟩)
      rw [h1] at h2 hne
      have hdr : (d.take q).drop m = (d.drop m).take (q - m) := by rw [List.drop_take]
      have htk : tokL ((d.drop m).take (q - m)) = some (t, k) := tokL_takeq h2 (by omega) (by rw [List.getElem?_drop, show m + (q - m) = q by omega]; exact h61)
      unfold nxtL
      rw [hst]
      simp only [if_true, hdr]
      rw [htk, if_neg]
      intro he
      rw [List.isEmpty_iff] at he
      rw [he] at htk
      cases htk
  · cases h
/-- Cut where nothing goes on, it ends. -/
theorem nxtL_cut {d : List UInt8} {m : Nat} (h : nxtL d = (m, none)) : nxtL (d.take m) = (m, some (⟨0, [], 0⟩, 0)) ∧ d[m]? ≠ some 61 ∧ m < d.length := by
  have hsk : ∃ b, skp d 0 none = (m, b) := by
    unfold nxtL at h
    split at h
    · split at h
      · cases h
      · injection h with h1 _
        exact ⟨_, by rw [← h1]⟩
    · injection h with h1 _
      exact ⟨_, by rw [← h1]⟩
  obtain ⟨b, hsk⟩ := hsk
  have hst : skp (d.take m) 0 none = (m, true) := skp_take d 0 none hsk (fun s h => by cases h) (Nat.zero_le _) (.inl rfl)
  refine ⟨?_, fun h61 => ?_, ?_⟩
  · unfold nxtL
    rw [hst]
    simp
  · obtain ⟨r, hr⟩ : ∃ r, d.drop m = 61 :: r := by
      obtain ⟨h1, h2⟩ := List.getElem?_eq_some_iff.1 h61
      exact ⟨_, by rw [List.drop_eq_getElem_cons h1, h2]⟩
    unfold nxtL at h
    rw [hsk] at h
    simp only at h
    rcases b with _ | _
    · have h34 := skp_false d 0 none hsk (fun s h => by cases h) (Nat.zero_le _)
      rw [Nat.sub_zero, h61] at h34
      cases h34
    · rw [if_pos rfl, hr] at h
      simp only [List.isEmpty_cons, Bool.false_eq_true, if_false] at h
      injection h with _ h
      rw [tokL, if_neg (by decide), if_neg (by decide), if_neg (by decide), if_neg (by decide), if_neg (by simp), if_neg (by decide), if_neg] at h
      · cases h
      · rw [runL, if_pos (by decide)]
        omega
  · rcases b with _ | _
    · have h34 := skp_false d 0 none hsk (fun s h => by cases h) (Nat.zero_le _)
      rw [Nat.sub_zero] at h34
      exact (List.getElem?_eq_some_iff.1 h34).1
    · unfold nxtL at h
      rw [hsk] at h
      simp only [if_true] at h
      split at h
      · cases h
      · rename_i hne
        rcases Nat.lt_or_ge m d.length with h1 | h1
        · exact h1
        · rw [List.drop_eq_nil_of_le h1] at hne
          simp at hne

/-! ### the tokens, one after the other, up to the first error -/
def strF : Nat → List UInt8 → Nat → List (Tok × Nat)
  | 0, _, _ => []
  | f + 1, d, a => match nxtL d with
    | (_, none) => []
    | (n, some (t, k)) => if t.kind = 0 then [(t, a + n)] else (t, a + n) :: strF f (d.drop (n + k)) (a + n + k)
theorem strF_fuel : ∀ (f g : Nat) (d : List UInt8) (a : Nat), d.length < f → d.length < g → strF f d a = strF g d a
  | 0, g, d, a, h, _ => by omega
  | f + 1, 0, d, a, _, h => by omega
  | f + 1, g + 1, d, a, h1, h2 => by
    rw [strF, strF]
    rcases hn : nxtL d with ⟨n, _ | ⟨t, k⟩⟩
    · rfl
    · simp only
      split
      · rfl
      · rename_i hk
        have he := nxtL_end hn
        have hk1 := he.2.resolve_left hk
        have hd : (d.drop (n + k)).length = d.length - (n + k) := List.length_drop
        rw [strF_fuel f g (d.drop (n + k)) (a + n + k) (by omega) (by omega)]
def strW (d : List UInt8) (a : Nat) : List (Tok × Nat) := strF (d.length + 1) d a
theorem strW_eq (d : List UInt8) (a : Nat) : strW d a = match nxtL d with
    | (_, none) => []
    | (n, some (t, k)) => if t.kind = 0 then [(t, a + n)] else (t, a + n) :: strW (d.drop (n + k)) (a + n + k) := by
  unfold strW
  rw [strF]
  rcases hn : nxtL d with ⟨n, _ | ⟨t, k⟩⟩
  · rfl
  · simp only
    split
    · rfl
    · rename_i hk
      have he := nxtL_end hn
      have hk1 := he.2.resolve_left hk
      have hd : (d.drop (n + k)).length = d.length - (n + k) := List.length_drop
      rw [strF_fuel d.length _ (d.drop (n + k)) (a + n + k) (by omega) (Nat.lt_succ_self _)]

theorem str_ok : ∀ (n : Nat) (d : List UInt8) (a : Nat), d.length ≤ n → ∀ {ts : List (Tok × Nat)}, scanW d a = .ok ts → strW d a = ts
  | n, d, a, hl, ts, h => by
    rw [scanW_eq] at h
    rw [strW_eq]
    rcases hn : nxtL d with ⟨m, _ | ⟨t, k⟩⟩
    · rw [hn] at h; cases h
    · rw [hn] at h
      simp only at h ⊢
      split at h
      · rename_i hk
        rw [if_pos hk]
        injection h
      · rename_i hk
        rw [if_neg hk]
        have hk1 := (nxtL_end hn).2.resolve_left hk
        have hle := (nxtL_end hn).1
        have hd : (d.drop (m + k)).length = d.length - (m + k) := List.length_drop
        cases n with
        | zero => omega
        | succ n =>
          rcases hx : scanW (d.drop (m + k)) (a + m + k) with e | us
          · rw [hx] at h; cases h
          · rw [hx] at h
            injection h with h
            rw [str_ok n (d.drop (m + k)) (a + m + k) (by omega) hx, ← h]
            rfl

theorem str_err : ∀ (n : Nat) (d : List UInt8) (a : Nat), d.length ≤ n → ∀ {e : Nat}, scanW d a = .error e →
    ∃ q, e = a + q ∧ q < d.length ∧ d[q]? ≠ some 61 ∧ scanW (d.take q) a = .ok (strW d a ++ [((⟨0, [], 0⟩ : Tok), e)])
  | n, d, a, hl, e, h => by
    rw [scanW_eq] at h
    rcases hn : nxtL d with ⟨m, _ | ⟨t, k⟩⟩
    · rw [hn] at h
      injection h with h
      obtain ⟨h1, h2, h3⟩ := nxtL_cut hn
      refine ⟨m, h.symm, h3, h2, ?_⟩
      · rw [scanW_eq, h1, strW_eq, hn]
        simp [h]
    · rw [hn] at h
      simp only at h
      split at h
      · cases h
      · rename_i hk
        have hk1 := (nxtL_end hn).2.resolve_left hk
        have hle := (nxtL_end hn).1
        have hd : (d.drop (m + k)).length = d.length - (m + k) := List.length_drop
        cases n with
        | zero => omega
        | succ n =>
          rcases hx : scanW (d.drop (m + k)) (a + m + k) with e' | us
          · rw [hx] at h
            injection h with h
            subst h
            obtain ⟨q, h1, h2, h3, h4⟩ := str_err n (d.drop (m + k)) (a + m + k) (by omega) hx
            rw [List.getElem?_drop] at h3
            refine ⟨m + k + q, by omega, by omega, h3, ?_⟩
            rw [scanW_eq, nxtL_takeq hn hk1 (by omega) h3]
            simp only
            rw [if_neg hk, List.drop_take, show m + k + q - (m + k) = q by omega, h4, strW_eq d, hn]
            simp only
            rw [if_neg hk]
            rfl
          · rw [hx] at h; cases h

/-- What the reference's tokens of the longest part that scans are. -/
theorem want_eq {l : List UInt8} : (∀ ts, allL l = .ok ts → strW l 0 = ts) ∧ (∀ p, allL l = .error p → p < l.length ∧ allL (l.take p) = .ok (strW l 0 ++ [((⟨0, [], 0⟩ : Tok), p)]) ∧ (p = 0 → strW l 0 = [])) := by
  refine ⟨fun ts h => str_ok l.length l 0 (Nat.le_refl _) h, fun p h => ?_⟩
  obtain ⟨q, h1, h2, _, h4⟩ := str_err l.length l 0 (Nat.le_refl _) h
  rw [Nat.zero_add] at h1
  subst h1
  refine ⟨h2, h4, fun h0 => ?_⟩
  subst h0
  rw [List.take_zero, scanW_nil] at h4
  injection h4 with h4
  have := congrArg List.length h4
  simp at this
  exact this

theorem strF_len : ∀ (f : Nat) (d : List UInt8) (a : Nat), (strF f d a).length ≤ f
  | 0, _, _ => by simp [strF]
  | f + 1, d, a => by
    rw [strF]
    rcases nxtL d with ⟨n, _ | ⟨t, k⟩⟩
    · simp
    · simp only
      split
      · simp
      · have := strF_len f (d.drop (n + k)) (a + n + k)
        simp only [List.length_cons]
        omega
theorem strW_len (l : List UInt8) : (strW l 0).length ≤ l.length + 1 := strF_len _ _ _
end Go.Proofs.YtefloadjolpgbaaGreatDoor
