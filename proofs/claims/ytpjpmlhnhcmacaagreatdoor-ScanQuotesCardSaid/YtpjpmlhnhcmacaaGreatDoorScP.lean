/- Plainly: a text's tokens, and those of two texts with a line end between. -/
import Derived.Test.YtpjpmlhnhcmacaaGreatDoorScA
namespace Go.Proofs.YtpjpmlhnhcmacaaGreatDoor
open Go.RowKit

theorem runL_app {p : UInt8 → Bool} (hp : p 10 = false) (b : List UInt8) : ∀ d : List UInt8, runL p (d ++ 10 :: b) = runL p d
  | [] => by simp [runL, hp]
  | c :: r => by
    rw [List.cons_append, runL, runL, runL_app hp b r]
theorem take_app {d b : List UInt8} {n : Nat} (h : n ≤ d.length) : (d ++ b).take n = d.take n := by
  rw [List.take_append_of_le_length h]
theorem get_app {d b : List UInt8} {n : Nat} (h : n < d.length) : (d ++ b)[n]? = d[n]? := List.getElem?_append_left h
theorem get_end (d b : List UInt8) : (d ++ 10 :: b)[d.length]? = some 10 := by simp
theorem kwB_app (d b : List UInt8) {n : Nat} (h : n ≤ d.length) : kwB (d ++ 10 :: b) n = kwB d n := by
  unfold kwB
  rcases Nat.lt_or_ge n d.length with h1 | h1
  · rw [get_app h1]
    rcases Nat.lt_or_ge (n + 1) d.length with h2 | h2
    · rw [get_app h2]
    · have : n + 1 = d.length := by omega
      rw [this, get_end, List.getElem?_eq_none (Nat.le_refl _)]
      rfl
  · have : n = d.length := by omega
    rw [this, get_end, List.getElem?_eq_none (Nat.le_refl _)]
    rfl
theorem txtL_app (b : List UInt8) : ∀ (n : Nat) (d : List UInt8), d.length ≤ n → ∀ {x : List UInt8 × Nat}, txtL d = some x → txtL (d ++ 10 :: b) = some x
  | 0, d, hl, x, h => by
    cases d with
    | nil => cases h
    | cons c r => simp at hl
  | n + 1, d, hl, x, h => by
    cases d with
    | nil => cases h
    | cons c r =>
      by_cases hc : c = 39
      · subst hc
        by_cases h0 : r[0]? = some 39
        · cases r with
          | nil => simp at h0
          | cons e q =>
            simp at h0
            subst h0
            rw [txtL_two] at h
            rcases hx : txtL q with _ | y
            · rw [hx] at h; cases h
            · rw [hx] at h
              rw [List.cons_append, List.cons_append, txtL_two, txtL_app b n q (by simp at hl; omega) hx]
              exact h
        · rw [txtL_end h0] at h
          rw [List.cons_append, txtL_end]
          · exact h
          · cases r with
            | nil => simp
            | cons e q => simpa using h0
      · rw [txtL_plain r hc] at h
        rcases hx : txtL r with _ | y
        · rw [hx] at h; cases h
        · rw [hx] at h
          rw [List.cons_append, txtL_plain _ hc, txtL_app b n r (by simp at hl; omega) hx]
          exact h
theorem kind_ten {m : List UInt8} (h : (10 : UInt8) ∈ m) : nmKind m = 0 := by
  rcases Nat.eq_zero_or_pos (nmKind m) with h0 | h0
  · exact h0
  · exfalso
    rcases kind_pos h0 with h1 | h1 | h1
    · have := List.all_eq_true.1 (nmLower_word h1).1 10 h
      exact absurd this (by decide)
    · have := List.all_eq_true.1 (bin_all h1).2 10 h
      exact absurd this (by decide)
    · rcases kw_chars h1 h with h2 | h2
      · exact absurd h2 (by decide)
      · exact absurd h2 (by decide)
theorem cand_app (d b : List UInt8) (j : Nat) : candB (d ++ 10 :: b) j = candB d j := by
  rcases Nat.lt_or_ge d.length j with h | h
  · have h1 : candB d j = false := by
      rw [Bool.eq_false_iff]
      intro hc
      have := cand_le hc
      omega
    rw [h1, Bool.eq_false_iff]
    intro hc
    have hk := cand_kind hc
    rw [kind_ten] at hk
    · omega
    · refine List.mem_of_getElem? (i := d.length) ?_
      rw [List.getElem?_take, if_pos h, get_end]
  · unfold candB
    rw [take_app h]
    have h1 : decide (j ≤ (d ++ 10 :: b).length) = decide (j ≤ d.length) := by simp; omega
    rw [h1]
    rcases Nat.eq_zero_or_pos j with h0 | h0
    · subst h0
      simp [nmKind, nmLower, nmIs, nmBin, nmKw, splitC]
    · congr 1
      cases d with
      | nil => simp at h; omega
      | cons c r =>
        show (!letB c || (c :: r ++ 10 :: b)[j - 1]? == some 58 || !(match (c :: r ++ 10 :: b)[j]? with | some d => wrdB d | none => false)) = (!letB c || (c :: r)[j - 1]? == some 58 || !(match (c :: r)[j]? with | some d => wrdB d | none => false))
        rw [get_app (by omega)]
        rcases Nat.lt_or_ge j (c :: r).length with h2 | h2
        · rw [get_app h2]
        · have : j = (c :: r).length := by omega
          rw [this, get_end, List.getElem?_eq_none (Nat.le_refl _)]
          rfl
theorem symL_app (d b : List UInt8) : symL (d ++ 10 :: b) = symL d := by
  refine symL_of ?_ fun j hj => ?_
  · rcases symTo_cand d d.length with h | h
    · exact .inl h
    · exact .inr (by rw [cand_app]; exact h)
  · rw [cand_app] at hj
    exact symTo_most d d.length j (cand_le hj) hj
theorem tokL_app (d b : List UInt8) {x : Tok × Nat} (h : tokL d = some x) : tokL (d ++ 10 :: b) = some x := by
  cases d with
  | nil => cases h
  | cons c r =>
    have hw := runL_le wrdB (c :: r)
    have hd := runL_le digB (c :: r)
    have hb := runL_le binB (c :: r)
    have hs := symTo_le r r.length
    have e1 : runL wrdB (c :: (r ++ 10 :: b)) = runL wrdB (c :: r) := runL_app (by decide) b (c :: r)
    have e2 : runL digB (c :: (r ++ 10 :: b)) = runL digB (c :: r) := runL_app (by decide) b (c :: r)
    have e3 : runL binB (c :: (r ++ 10 :: b)) = runL binB (c :: r) := runL_app (by decide) b (c :: r)
    have e4 : kwB (c :: (r ++ 10 :: b)) (runL wrdB (c :: r)) = kwB (c :: r) (runL wrdB (c :: r)) := kwB_app (c :: r) b hw
    have e5 : ∀ n, n ≤ (c :: r).length → (c :: (r ++ 10 :: b)).take n = (c :: r).take n := fun n hn => take_app (d := c :: r) hn
    rw [List.cons_append, tokL, e1, e2, e3, e4, symL_app]
    rw [tokL] at h
    split at h
    · rename_i hc
      rw [if_pos hc]
      split at h
      · cases h
      · rename_i h40
        rw [if_neg h40]
        split at h
        · rename_i hk
          have hlt : runL wrdB (c :: r) + 1 ≤ (c :: r).length := by
            unfold kwB at hk
            simp only [Bool.and_eq_true, beq_iff_eq] at hk
            exact (List.getElem?_eq_some_iff.1 hk.1).1
          rw [if_pos hk, e5 _ hlt]
          exact h
        · rename_i hk
          rw [if_neg hk, e5 _ hw]
          exact h
    · rename_i hc
      rw [if_neg hc]
      split at h
      · rename_i hdg
        rw [if_pos hdg, e5 _ hd]
        exact h
      · rename_i hdg
        rw [if_neg hdg]
        split at h
        · rename_i h39
          rw [if_pos h39]
          rcases hx : txtL r with _ | y
          · rw [hx] at h; cases h
          · rw [hx] at h
            rw [txtL_app b r.length r (Nat.le_refl _) hx]
            exact h
        · rename_i h39
          rw [if_neg h39]
          split at h
          · rename_i h35
            rw [if_pos h35, take_app (by unfold symL; exact hs)]
            exact h
          · rename_i h35
            rw [if_neg h35]
            have e6 : (c = 58 ∧ (r ++ 10 :: b)[0]? = some 61) ↔ (c = 58 ∧ r[0]? = some 61) := by
              cases r with
              | nil => simp
              | cons e q => simp
            split at h
            · rename_i hme
              rw [if_pos (e6.2 hme)]
              exact h
            · rename_i hme
              rw [if_neg (fun hh => hme (e6.1 hh))]
              split at h
              · rename_i hmk
                rw [if_pos hmk]
                exact h
              · rename_i hmk
                rw [if_neg hmk, e5 _ (Nat.le_trans (Nat.min_le_right _ _) hb)]
                exact h

theorem skp_app (e : List UInt8) : ∀ (d : List UInt8) (a : Nat) (st : Option Nat) (n : Nat), (∀ s, st = some s → s ≤ a) → skp d a st = (n, true) →
    (n < a + d.length → skp (d ++ e) a st = (n, true)) ∧ (n = a + d.length → skp (d ++ e) a st = skp e (a + d.length) none)
  | [], a, none, n, _, h => by
    injection h with h _
    subst h
    exact ⟨fun h => absurd h (by simp), fun _ => rfl⟩
  | [], a, some s, n, _, h => by
    injection h with _ h
    cases h
  | c :: r, a, none, n, hs, h => by
    rw [skp] at h
    rw [List.cons_append, skp]
    rw [List.length_cons, show a + (r.length + 1) = a + 1 + r.length by omega]
    split
    · rename_i h1
      rw [if_pos h1] at h
      exact skp_app e r (a + 1) none n (fun s h => by cases h) h
    · rename_i h1
      rw [if_neg h1] at h
      split
      · rename_i h2
        rw [if_pos h2] at h
        exact skp_app e r (a + 1) (some a) n (fun s h => by cases h; omega) h
      · rename_i h2
        rw [if_neg h2] at h
        injection h with h _
        exact ⟨fun _ => by rw [h], fun hn => by omega⟩
  | c :: r, a, some s, n, hs, h => by
    rw [skp] at h
    rw [List.cons_append, skp]
    rw [List.length_cons, show a + (r.length + 1) = a + 1 + r.length by omega]
    split
    · rename_i h1
      rw [if_pos h1] at h
      exact skp_app e r (a + 1) none n (fun s h => by cases h) h
    · rename_i h1
      rw [if_neg h1] at h
      exact skp_app e r (a + 1) (some s) n (fun s' h' => by cases h'; have := hs s rfl; omega) h
theorem skp_shift (c : Nat) : ∀ (r : List UInt8) (a : Nat) (st : Option Nat), skp r (a + c) (st.map (· + c)) = ((skp r a st).1 + c, (skp r a st).2)
  | [], a, none => rfl
  | [], a, some s => rfl
  | x :: r, a, none => by
    have h1 := skp_shift c r (a + 1) none
    have h2 := skp_shift c r (a + 1) (some a)
    rw [show a + 1 + c = a + c + 1 by omega] at h1 h2
    simp only [Option.map_none, Option.map_some] at h1 h2 ⊢
    rw [skp, skp]
    split
    · exact h1
    · split
      · exact h2
      · rfl
  | x :: r, a, some s => by
    have h1 := skp_shift c r (a + 1) none
    have h2 := skp_shift c r (a + 1) (some s)
    rw [show a + 1 + c = a + c + 1 by omega] at h1 h2
    simp only [Option.map_none, Option.map_some] at h1 h2 ⊢
    rw [skp, skp]
    split
    · exact h1
    · exact h2
theorem skp_from (r : List UInt8) (c : Nat) : skp r c none = ((skp r 0 none).1 + c, (skp r 0 none).2) := by
  have := skp_shift c r 0 none
  rw [Nat.zero_add] at this
  exact this

/-! ### the scan, without fuel -/
theorem scanF_fuel : ∀ (f g : Nat) (d : List UInt8) (a : Nat), d.length < f → d.length < g → scanF f d a = scanF g d a
  | 0, g, d, a, h, _ => by omega
  | f + 1, 0, d, a, _, h => by omega
  | f + 1, g + 1, d, a, h1, h2 => by
    rw [scanF, scanF]
    rcases hn : nxtL d with ⟨n, _ | ⟨t, k⟩⟩
    · rfl
    · simp only
      split
      · rfl
      · rename_i hk
        have he := nxtL_end hn
        have hk1 := he.2.resolve_left hk
        have hd : (d.drop (n + k)).length = d.length - (n + k) := List.length_drop
        rw [scanF_fuel f g (d.drop (n + k)) (a + n + k) (by omega) (by omega)]
def scanW (d : List UInt8) (a : Nat) : Except Nat (List (Tok × Nat)) := scanF (d.length + 1) d a
theorem scanW_eq (d : List UInt8) (a : Nat) : scanW d a = match nxtL d with
    | (n, none) => .error (a + n)
    | (n, some (t, k)) => if t.kind = 0 then .ok [(t, a + n)] else pre [(t, a + n)] (scanW (d.drop (n + k)) (a + n + k)) := by
  unfold scanW
  rw [scanF]
  rcases hn : nxtL d with ⟨n, _ | ⟨t, k⟩⟩
  · rfl
  · simp only
    split
    · rfl
    · rename_i hk
      have he := nxtL_end hn
      have hk1 := he.2.resolve_left hk
      have hd : (d.drop (n + k)).length = d.length - (n + k) := List.length_drop
      rw [scanF_fuel d.length ((d.drop (n + k)).length + 1) (d.drop (n + k)) (a + n + k) (by omega) (by omega)]
      rcases scanF ((d.drop (n + k)).length + 1) (d.drop (n + k)) (a + n + k) <;> rfl

def shiftE (c : Nat) : Except Nat (List (Tok × Nat)) → Except Nat (List (Tok × Nat))
  | .ok ts => .ok (ts.map fun p => (p.1, p.2 + c))
  | .error e => .error (e + c)
theorem shift_pre (c : Nat) (ts : List (Tok × Nat)) (x : Except Nat (List (Tok × Nat))) : shiftE c (pre ts x) = pre (ts.map fun p => (p.1, p.2 + c)) (shiftE c x) := by
  cases x <;> simp [shiftE, pre]
theorem scanW_shift (c : Nat) : ∀ (n : Nat) (d : List UInt8) (a : Nat), d.length ≤ n → scanW d (a + c) = shiftE c (scanW d a)
  | n, d, a, hl => by
    rw [scanW_eq, scanW_eq]
    rcases hn : nxtL d with ⟨m, _ | ⟨t, k⟩⟩
    · simp [shiftE]
      omega
    · simp only
      split
      · simp [shiftE]
        omega
      · rename_i hk
        have he := nxtL_end hn
        have hk1 := he.2.resolve_left hk
        have hd : (d.drop (m + k)).length = d.length - (m + k) := List.length_drop
        cases n with
        | zero => omega
        | succ n =>
          have ih := scanW_shift c n (d.drop (m + k)) (a + m + k) (by omega)
          rw [show a + c + m + k = a + m + k + c by omega, ih, shift_pre, show a + c + m = a + m + c by omega]
          rfl

/-- A token, and what stands behind it, with a line end and more behind that. -/
theorem nxtL_app (d b : List UInt8) {n k : Nat} {t : Tok} (h : nxtL d = (n, some (t, k))) (ht : t.kind ≠ 0) : nxtL (d ++ 10 :: b) = (n, some (t, k)) := by
  have hle := skp_le d 0 none (fun s h => by cases h)
  unfold nxtL at h
  split at h
  · rename_i hok
    split at h
    · injection h with _ h2
      injection h2 with h2
      injection h2 with h2 _
      exact absurd (by rw [← h2]) ht
    · rename_i hne
      injection h with h1 h2
      have hlt : n < d.length := by
        rcases Nat.lt_or_ge n d.length with h3 | h3
        · exact h3
        · exfalso
          rw [h1] at hne
          exact hne (by rw [List.drop_eq_nil_of_le h3]; rfl)
      have hs : skp d 0 none = (n, true) := by rw [← h1, ← hok]
      have h4 := (skp_app (10 :: b) d 0 none n (fun s h => by cases h) hs).1 (by omega)
      rw [h1] at h2
      have h5 : (d ++ 10 :: b).drop n = d.drop n ++ 10 :: b := List.drop_append_of_le_length (Nat.le_of_lt hlt)
      unfold nxtL
      rw [h4]
      simp only [if_true]
      rw [h5, if_neg (by simp), tokL_app _ _ h2]
  · cases h
/-- At a text's end, a line end and more behind it. -/
theorem nxtL_skip (d b : List UInt8) {n k : Nat} {t : Tok} (h : nxtL d = (n, some (t, k))) (ht : t.kind = 0) : t = ⟨0, [], 0⟩ ∧ n = d.length ∧ nxtL (d ++ 10 :: b) = ((nxtL b).1 + (d.length + 1), (nxtL b).2) := by
  have hle := skp_le d 0 none (fun s h => by cases h)
  unfold nxtL at h
  split at h
  · rename_i hok
    split at h
    · rename_i hem
      injection h with h1 h2
      injection h2 with h2
      injection h2 with h2 _
      have hn : n = d.length := by
        rw [h1, List.isEmpty_iff] at hem
        have := congrArg List.length hem
        rw [List.length_drop] at this
        simp at this
        omega
      have hs : skp d 0 none = (n, true) := by rw [← h1, ← hok]
      have h4 := (skp_app (10 :: b) d 0 none n (fun s h => by cases h) hs).2 (by omega)
      have h5 : skp (10 :: b) (0 + d.length) none = skp b (d.length + 1) none := by
        rw [skp, if_pos (by decide), Nat.zero_add]
      rw [h5, skp_from b (d.length + 1)] at h4
      have h6 : (d ++ 10 :: b).drop ((skp b 0 none).1 + (d.length + 1)) = b.drop (skp b 0 none).1 := by
        rw [List.drop_append, List.drop_eq_nil_of_le (by omega), List.nil_append, show (skp b 0 none).1 + (d.length + 1) - d.length = (skp b 0 none).1 + 1 by omega]
        rfl
      refine ⟨h2.symm, hn, ?_⟩
      unfold nxtL
      rw [h4]
      simp only
      rw [h6]
      split
      · split <;> rfl
      · rfl
    · injection h with _ h2
      have := (tokL_len h2).2.2
      omega
  · cases h

/-- The tokens of two texts with a line end between. -/
theorem scanW_join (b : List UInt8) : ∀ (n : Nat) (d : List UInt8) (a : Nat), d.length ≤ n → ∀ {ts : List (Tok × Nat)}, scanW d a = .ok ts →
    ∃ ts0, ts = ts0 ++ [(⟨0, [], 0⟩, a + d.length)] ∧ scanW (d ++ 10 :: b) a = pre ts0 (scanW b (a + (d.length + 1)))
  | n, d, a, hl, ts, h => by
    rw [scanW_eq] at h
    rcases hn : nxtL d with ⟨m, _ | ⟨t, k⟩⟩
    · rw [hn] at h
      cases h
    · rw [hn] at h
      simp only at h
      split at h
      · rename_i hk
        obtain ⟨h1, h2, h3⟩ := nxtL_skip d b hn hk
        injection h with h
        refine ⟨[], by rw [← h, h1, h2]; rfl, ?_⟩
        rw [pre_nil, scanW_eq, scanW_eq, h3]
        rcases nxtL b with ⟨m2, _ | ⟨t2, k2⟩⟩
        · simp only
          congr 1
          omega
        · simp only
          rw [show a + (m2 + (d.length + 1)) = a + (d.length + 1) + m2 by omega]
          have h6 : (d ++ 10 :: b).drop (m2 + (d.length + 1) + k2) = b.drop (m2 + k2) := by
            rw [List.drop_append, List.drop_eq_nil_of_le (by omega), List.nil_append, show m2 + (d.length + 1) + k2 - d.length = m2 + k2 + 1 by omega]
            rfl
          rw [h6]
      · rename_i hk
        have he := nxtL_end hn
        have hk1 := he.2.resolve_left hk
        have hd : (d.drop (m + k)).length = d.length - (m + k) := List.length_drop
        cases n with
        | zero => omega
        | succ n =>
          rcases hx : scanW (d.drop (m + k)) (a + m + k) with e | us
          · rw [hx] at h
            cases h
          · obtain ⟨ts0, h1, h2⟩ := scanW_join b n (d.drop (m + k)) (a + m + k) (by omega) hx
            rw [hx] at h
            injection h with h
            refine ⟨(t, a + m) :: ts0, ?_, ?_⟩
            · rw [← h, h1, show a + m + k + (d.drop (m + k)).length = a + d.length by omega]
              rfl
            · rw [scanW_eq, nxtL_app d b hn hk]
              simp only
              rw [if_neg hk, List.drop_append_of_le_length (by omega), h2, show a + m + k + ((d.drop (m + k)).length + 1) = a + (d.length + 1) by omega]
              rcases scanW b (a + (d.length + 1)) <;> rfl
end Go.Proofs.YtpjpmlhnhcmacaaGreatDoor
