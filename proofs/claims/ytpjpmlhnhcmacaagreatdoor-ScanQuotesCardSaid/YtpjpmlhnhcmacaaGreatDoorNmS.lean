/- Plainly: the longest selector with which a text begins. -/
import Derived.Test.YtpjpmlhnhcmacaaGreatDoorNmL
namespace Go.Proofs.YtpjpmlhnhcmacaaGreatDoor
open Go.RowKit

/-- A selector of length k does not end within a word. -/
def wholeB (l : List UInt8) (k : Nat) : Bool := match l with
  | [] => true
  | c :: _ => !letB c || l[k - 1]? == some 58 || !(match l[k]? with | some d => wrdB d | none => false)
def candB (l : List UInt8) (k : Nat) : Bool := decide (0 < nmKind (l.take k)) && decide (k ≤ l.length) && wholeB l k
def symTo (l : List UInt8) : Nat → Nat
  | 0 => 0
  | k + 1 => if candB l (k + 1) then k + 1 else symTo l k
/-- The longest's length; 0: there is none. -/
def symL (l : List UInt8) : Nat := symTo l l.length

theorem symTo_cand (l : List UInt8) : ∀ n, symTo l n = 0 ∨ candB l (symTo l n) = true
  | 0 => .inl rfl
  | n + 1 => by
    rw [symTo]
    split
    · rename_i h
      exact .inr h
    · exact symTo_cand l n
theorem symTo_most (l : List UInt8) : ∀ n j, j ≤ n → candB l j = true → j ≤ symTo l n
  | 0, j, hj, _ => by omega
  | n + 1, j, hj, hc => by
    rw [symTo]
    split
    · exact hj
    · rename_i h
      rcases Nat.lt_or_ge j (n + 1) with h1 | h1
      · exact symTo_most l n j (by omega) hc
      · have : j = n + 1 := by omega
        subst this
        exact absurd hc h
theorem symTo_le (l : List UInt8) : ∀ n, symTo l n ≤ n
  | 0 => Nat.le_refl _
  | n + 1 => by
    rw [symTo]
    split
    · exact Nat.le_refl _
    · have := symTo_le l n
      omega
theorem cand_le {l : List UInt8} {k : Nat} (h : candB l k = true) : k ≤ l.length := by
  unfold candB at h
  simp only [Bool.and_eq_true, decide_eq_true_eq] at h
  exact h.1.2
theorem cand_kind {l : List UInt8} {k : Nat} (h : candB l k = true) : 0 < nmKind (l.take k) := by
  unfold candB at h
  simp only [Bool.and_eq_true, decide_eq_true_eq] at h
  exact h.1.1
theorem symL_of {l : List UInt8} {k : Nat} (h1 : k = 0 ∨ candB l k = true) (h2 : ∀ j, candB l j = true → j ≤ k) : symL l = k := by
  have a := symTo_cand l l.length
  have b := symTo_most l l.length
  unfold symL
  have h3 : symTo l l.length ≤ k := by
    rcases a with a | a
    · omega
    · exact h2 _ a
  have h4 : k ≤ symTo l l.length := by
    rcases h1 with h1 | h1
    · omega
    · exact b k (cand_le h1) h1
  omega

theorem kind_pos {m : List UInt8} (h : 0 < nmKind m) : nmLower m = true ∨ nmBin m = true ∨ nmKw m = true := by
  unfold nmKind at h
  split at h
  · rename_i h1; exact .inl h1
  · split at h
    · rename_i h1; exact .inr (.inl h1)
    · split at h
      · rename_i h1; exact .inr (.inr h1)
      · omega
theorem kind_of_lower {m : List UInt8} (h : nmLower m = true) : nmKind m = 1 := by unfold nmKind; rw [if_pos h]
theorem kind_of_bin {m : List UInt8} (h : nmBin m = true) : 0 < nmKind m := by rcases h1 : nmLower m with _ | _ <;> simp [nmKind, h1, h]
theorem kind_of_kw {m : List UInt8} (h : nmKw m = true) : 0 < nmKind m := by rcases h1 : nmLower m with _ | _ <;> rcases h2 : nmBin m with _ | _ <;> simp [nmKind, h1, h2, h]

theorem small_let {c : UInt8} (h : smallB c = true) : letB c = true := by unfold letB; rw [h]; rfl
theorem bin_let {c : UInt8} (h : binB c = true) : letB c = false := by
  have : ∀ c ∈ binL, letB c = false := by decide
  exact this c (by unfold binB at h; simpa using h)
theorem let_bin {c : UInt8} (h : letB c = true) : binB c = false := by
  rcases hb : binB c with _ | _
  · rfl
  · rw [bin_let hb] at h
    cases h
theorem let_wrd {c : UInt8} (h : letB c = true) : wrdB c = true := by unfold wrdB; rw [h]; rfl
theorem let_colon : letB 58 = false := by decide
theorem lower_head {m : List UInt8} (h : nmLower m = true) : ∃ c r, m = c :: r ∧ letB c = true := by
  unfold nmLower at h
  cases m with
  | nil => simp at h
  | cons c r =>
    simp only [Bool.and_eq_true] at h
    exact ⟨c, r, rfl, small_let h.2⟩
theorem bin_all {m : List UInt8} (h : nmBin m = true) : (m.length = 1 ∨ m.length = 2) ∧ m.all binB = true := by
  unfold nmBin at h
  simpa only [Bool.and_eq_true, Bool.or_eq_true, decide_eq_true_eq] using h
theorem kw_parts {m : List UInt8} (h : nmKw m = true) : (splitC m).2 = [] ∧ 1 ≤ (splitC m).1.length ∧ (splitC m).1.length ≤ 10 ∧ (∀ p ∈ (splitC m).1, nmLower p = true) := by
  unfold nmKw at h
  simp only [Bool.and_eq_true, decide_eq_true_eq, List.isEmpty_iff, List.all_eq_true] at h
  exact ⟨h.1.1.1, h.1.1.2, h.1.2, h.2⟩
theorem kw_of {m : List UInt8} (h1 : (splitC m).2 = []) (h2 : 1 ≤ (splitC m).1.length) (h3 : (splitC m).1.length ≤ 10) (h4 : ∀ p ∈ (splitC m).1, nmLower p = true) : nmKw m = true := by
  unfold nmKw
  simp only [Bool.and_eq_true, decide_eq_true_eq, List.isEmpty_iff, List.all_eq_true]
  exact ⟨⟨⟨h1, h2⟩, h3⟩, h4⟩
theorem kw_join {m : List UInt8} (h : nmKw m = true) : m = (splitC m).1.flatMap (· ++ [58]) := by
  have := splitC_join m
  rw [(kw_parts h).1, List.append_nil] at this
  exact this.symm
theorem kw_chars {m : List UInt8} (h : nmKw m = true) {c : UInt8} (hc : c ∈ m) : wrdB c = true ∨ c = 58 := by
  rw [kw_join h] at hc
  obtain ⟨p, hp, hcp⟩ := List.mem_flatMap.1 hc
  rcases List.mem_append.1 hcp with h1 | h1
  · exact .inl (List.all_eq_true.1 (nmLower_word ((kw_parts h).2.2.2 p hp)).1 c h1)
  · exact .inr (by simpa using h1)
theorem kw_end {m : List UInt8} (h : nmKw m = true) : ∃ a, m = a ++ [58] := by
  have h1 := kw_join h
  have h2 := (kw_parts h).2.1
  rcases List.eq_nil_or_concat (splitC m).1 with h0 | ⟨ps, p, h0⟩
  · rw [h0] at h2
    simp at h2
  · rw [h0] at h1
    rw [h1]
    exact ⟨ps.flatMap (· ++ [58]) ++ p, by simp⟩
theorem kw_prefix {a b : List UInt8} (h : nmKw (a ++ 58 :: b) = true) : nmKw (a ++ [58]) = true := by
  obtain ⟨h1, h2, h3, h4⟩ := kw_parts h
  have e1 := splitC_append a b
  have e2 : splitC (a ++ [58]) = ((splitC a).1 ++ [(splitC a).2], []) := by simpa [splitC] using splitC_append a []
  rw [e1] at h3 h4
  simp only [List.length_append, List.length_cons] at h3
  refine kw_of (by rw [e2]) (by rw [e2]; simp) (by rw [e2]; simp; omega) fun p hp => ?_
  rw [e2] at hp
  refine h4 p ?_
  simp only [List.mem_append, List.mem_cons] at hp ⊢
  rcases hp with hp | hp
  · exact .inl hp
  · exact .inr (.inl (by simpa using hp))
theorem kw_head {m : List UInt8} (h : nmKw m = true) : ∃ c r, m = c :: r ∧ letB c = true := by
  obtain ⟨_, h2, _, h4⟩ := kw_parts h
  obtain ⟨p, r', h5, _, h7⟩ := split_step (rest := m) (by intro h0; rw [h0] at h2; simp at h2)
  obtain ⟨c, r, rfl, hc⟩ := lower_head (h4 p (by rw [h7]; simp))
  exact ⟨c, r ++ 58 :: r', by rw [h5]; rfl, hc⟩
theorem kw_next {a b : List UInt8} (h : nmKw (a ++ 58 :: b) = true) (hb : b ≠ []) : ∃ c r, b = c :: r ∧ letB c = true := by
  obtain ⟨h1, _, _, h4⟩ := kw_parts h
  rw [splitC_append] at h1 h4
  have h0 : (splitC b).1 ≠ [] := by
    intro h0
    have := split_end h0
    simp only at h1
    rw [h1] at this
    exact hb this.symm
  obtain ⟨p, r', h5, _, h7⟩ := split_step h0
  obtain ⟨c, r, rfl, hc⟩ := lower_head (h4 p (by rw [h7]; simp))
  exact ⟨c, r ++ 58 :: r', by rw [h5]; rfl, hc⟩
/-- What holds a colon is of keywords, if anything. -/
theorem kind_colon {m : List UInt8} (hm : (58 : UInt8) ∈ m) (h : 0 < nmKind m) : nmKw m = true := by
  rcases kind_pos h with h | h | h
  · have := List.all_eq_true.1 (nmLower_word h).1 58 hm
    rw [wrdB_colon] at this
    cases this
  · have := List.all_eq_true.1 (bin_all h).2 58 hm
    rw [binB_colon] at this
    cases this
  · exact h

/-- A head that is neither letter nor of a binary selector. -/
theorem sym_none {l : List UInt8} (h1 : wrdL l = 0) (h2 : runL binB l = 0) : symL l = 0 := by
  refine symL_of (.inl rfl) fun j hj => ?_
  have hk := cand_kind hj
  rcases Nat.eq_zero_or_pos j with h0 | h0
  · omega
  exfalso
  cases l with
  | nil => simp [nmKind, nmLower, nmIs, nmBin, nmKw, splitC] at hk
  | cons c r =>
    have hc : letB c = false := by
      rcases hb : letB c with _ | _
      · rfl
      · rw [wrdL, hb] at h1
        simp [runL, let_wrd hb] at h1
    have hb : binB c = false := by
      rcases hb : binB c with _ | _
      · rfl
      · rw [runL, if_pos hb] at h2
        omega
    obtain ⟨j, rfl⟩ : ∃ i, j = i + 1 := ⟨j - 1, by omega⟩
    rw [List.take_succ_cons] at hk
    rcases kind_pos hk with h | h | h
    · obtain ⟨d, q, h3, h4⟩ := lower_head h
      injection h3 with h3 _
      rw [← h3, hc] at h4
      cases h4
    · have := List.all_eq_true.1 (bin_all h).2 c (by simp)
      rw [hb] at this
      cases this
    · obtain ⟨d, q, h3, h4⟩ := kw_head h
      injection h3 with h3 _
      rw [← h3, hc] at h4
      cases h4
theorem runL_take (p : UInt8 → Bool) : ∀ (l : List UInt8) (n : Nat), n ≤ runL p l → (l.take n).all p = true
  | [], n, _ => by simp
  | c :: r, 0, _ => by simp
  | c :: r, n + 1, h => by
    rw [runL] at h
    split at h
    · rename_i hc
      rw [List.take_succ_cons, List.all_cons, hc, Bool.true_and]
      exact runL_take p r n (by omega)
    · omega
theorem runL_ge (p : UInt8 → Bool) : ∀ (l : List UInt8) (n : Nat), n ≤ l.length → (l.take n).all p = true → n ≤ runL p l
  | [], n, h, _ => by
    simp at h
    rw [h]
    exact Nat.zero_le _
  | c :: r, 0, _, _ => Nat.zero_le _
  | c :: r, n + 1, h, h2 => by
    rw [List.take_succ_cons, List.all_cons, Bool.and_eq_true] at h2
    rw [runL, if_pos h2.1]
    have := runL_ge p r n (by simpa using h) h2.2
    omega
theorem sym_bin {l : List UInt8} (h : 0 < runL binB l) : symL l = min 2 (runL binB l) := by
  have hle := runL_le binB l
  cases l with
  | nil => simp [runL] at h
  | cons c r =>
    have hb : binB c = true := by
      rcases hb : binB c with _ | _
      · rw [runL, if_neg (by simp [hb])] at h
        omega
      · rfl
    have hc := bin_let hb
    refine symL_of (.inr ?_) fun j hj => ?_
    · unfold candB
      simp only [Bool.and_eq_true, decide_eq_true_eq]
      refine ⟨⟨kind_of_bin ?_, by omega⟩, ?_⟩
      · unfold nmBin
        simp only [Bool.and_eq_true, Bool.or_eq_true, decide_eq_true_eq]
        refine ⟨?_, runL_take _ _ _ (Nat.min_le_right _ _)⟩
        rw [List.length_take]
        omega
      · show (!letB c || _ || _) = true
        rw [hc]
        rfl
    · have hk := cand_kind hj
      have hjl := cand_le hj
      rcases Nat.eq_zero_or_pos j with h0 | h0
      · omega
      obtain ⟨j, rfl⟩ : ∃ i, j = i + 1 := ⟨j - 1, by omega⟩
      rcases kind_pos hk with h | h | h
      · rw [List.take_succ_cons] at h
        obtain ⟨d, q, h3, h4⟩ := lower_head h
        injection h3 with h3 _
        rw [← h3, hc] at h4
        cases h4
      · obtain ⟨h5, h6⟩ := bin_all h
        have := runL_ge binB (c :: r) (j + 1) hjl h6
        rw [List.length_take] at h5
        omega
      · rw [List.take_succ_cons] at h
        obtain ⟨d, q, h3, h4⟩ := kw_head h
        injection h3 with h3 _
        rw [← h3, hc] at h4
        cases h4

/-! ### the loop that looks for keywords -/
/-- Where the loop stands: at its beginning, or behind keywords. -/
def SymSt (l : List UInt8) (a best : Nat) : Prop := (a = 0 ∧ best = 0) ∨ (0 < a ∧ best = a ∧ a ≤ l.length ∧ nmKw (l.take a) = true)

theorem wrdL_run {d : List UInt8} (h : 0 < wrdL d) : wrdL d = runL wrdB d ∧ ∃ c r, d = c :: r ∧ letB c = true := by
  cases d with
  | nil => simp [wrdL] at h
  | cons c r =>
    rcases hc : letB c with _ | _
    · rw [wrdL, hc] at h
      simp at h
    · exact ⟨by rw [wrdL, hc]; rfl, c, r, rfl, hc⟩
theorem take_split (l : List UInt8) {a j : Nat} (h : a ≤ j) : l.take j = l.take a ++ (l.drop a).take (j - a) := by
  rw [← List.take_append_drop a (l.take j), List.take_take, Nat.min_eq_left h, List.drop_take]
theorem not_bin {l : List UInt8} {c : UInt8} {r : List UInt8} (hl : l = c :: r) (hc : letB c = true) (j : Nat) : nmBin (l.take j) = false := by
  rw [Bool.eq_false_iff]
  intro h
  obtain ⟨h1, h2⟩ := bin_all h
  subst hl
  cases j with
  | zero => simp at h1
  | succ j =>
    have := List.all_eq_true.1 h2 c (by simp)
    rw [let_bin hc] at this
    cases this
theorem sym_head {l : List UInt8} {a best : Nat} (h : SymSt l a best) (hn : 0 < wrdL (l.drop a)) : ∃ c r, l = c :: r ∧ letB c = true := by
  rcases h with ⟨rfl, _⟩ | ⟨h0, _, _, hk⟩
  · exact (wrdL_run hn).2
  · obtain ⟨c, r, h1, h2⟩ := kw_head hk
    cases l with
    | nil => simp at h1
    | cons d q =>
      obtain ⟨a, rfl⟩ : ∃ i, a = i + 1 := ⟨a - 1, by omega⟩
      rw [List.take_succ_cons] at h1
      injection h1 with h1 _
      exact ⟨d, q, rfl, by rw [h1]; exact h2⟩
theorem colon_mem {l : List UInt8} {a j : Nat} (hk : nmKw (l.take a) = true) (h : a ≤ j) : (58 : UInt8) ∈ l.take j := by
  obtain ⟨m, hm⟩ := kw_end hk
  rw [take_split l h, hm]
  simp
theorem not_lower {l : List UInt8} {a j : Nat} (hk : nmKw (l.take a) = true) (h : a ≤ j) : nmLower (l.take j) = false := by
  rw [Bool.eq_false_iff]
  intro hl
  have := List.all_eq_true.1 (nmLower_word hl).1 58 (colon_mem hk h)
  rw [wrdB_colon] at this
  cases this
/-- Within a word nothing ends with a colon. -/
theorem not_kw {l : List UInt8} {a j : Nat} (h : a < j) (hj : j ≤ a + runL wrdB (l.drop a)) (hjl : j ≤ l.length) : nmKw (l.take j) = false := by
  rw [Bool.eq_false_iff]
  intro hk
  obtain ⟨m, hm⟩ := kw_end hk
  have h1 := runL_take wrdB (l.drop a) (j - a) (by omega)
  rw [take_split l (Nat.le_of_lt h)] at hm
  have hne : (l.drop a).take (j - a) ≠ [] := by
    intro h0
    have := congrArg List.length h0
    rw [List.length_take, List.length_drop] at this
    simp at this
    omega
  obtain ⟨x, y, hxy⟩ := (List.eq_nil_or_concat ((l.drop a).take (j - a))).resolve_left hne
  rw [hxy] at hm h1
  have h2 : y = 58 := by
    have := congrArg List.getLast? hm
    simpa using this
  have h3 := List.all_eq_true.1 h1 y (by simp)
  rw [h2, wrdB_colon] at h3
  cases h3
theorem cand_kw {l : List UInt8} {a : Nat} (ha : 0 < a) (hal : a ≤ l.length) (hk : nmKw (l.take a) = true) : candB l a = true := by
  unfold candB
  simp only [Bool.and_eq_true, decide_eq_true_eq]
  refine ⟨⟨kind_of_kw hk, hal⟩, ?_⟩
  obtain ⟨m, hm⟩ := kw_end hk
  have h1 : l[a - 1]? = some 58 := by
    have h2 : (l.take a)[a - 1]? = some 58 := by
      have hl : m.length = a - 1 := by
        have := congrArg List.length hm
        rw [List.length_take] at this
        simp at this
        omega
      rw [hm, ← hl]
      simp
    rw [List.getElem?_take] at h2
    split at h2
    · exact h2
    · cases h2
  cases l with
  | nil => rfl
  | cons c r =>
    show (!letB c || _ || _) = true
    rw [h1]
    simp
theorem sym_exit {l : List UInt8} {a best : Nat} (h : SymSt l a best) (hb : runL binB l = 0) (hn : wrdL (l.drop a) = 0) : symL l = best := by
  rcases h with ⟨rfl, rfl⟩ | ⟨h0, rfl, hal, hk⟩
  · exact sym_none hn hb
  · refine symL_of (.inr (cand_kw h0 hal hk)) fun j hj => ?_
    rcases Nat.lt_or_ge best j with h1 | h1
    · exfalso
      have hk2 := kind_colon (colon_mem hk (Nat.le_of_lt h1)) (cand_kind hj)
      obtain ⟨m, hm⟩ := kw_end hk
      have hjl := cand_le hj
      rw [take_split l (Nat.le_of_lt h1), hm, List.append_assoc, List.singleton_append] at hk2
      have hne : (l.drop best).take (j - best) ≠ [] := by
        intro h0
        have := congrArg List.length h0
        rw [List.length_take, List.length_drop] at this
        simp at this
        omega
      obtain ⟨c, r, h3, h4⟩ := kw_next hk2 hne
      cases hd : l.drop best with
      | nil => rw [hd] at h3; simp at h3
      | cons d q =>
        rw [hd] at h3 hn
        obtain ⟨i, hi⟩ : ∃ i, j - best = i + 1 := ⟨j - best - 1, by omega⟩
        rw [hi, List.take_succ_cons] at h3
        injection h3 with h3 _
        rw [wrdL, h3, h4] at hn
        simp [runL, let_wrd h4] at hn
    · exact h1
/-- What is best behind one word more. -/
def symBest (l : List UInt8) (a n best : Nat) : Nat := if a = 0 ∧ nmKind (l.take n) = 1 then n else best
theorem kind_one {m : List UInt8} (h : nmKind m = 1) : nmLower m = true := by
  unfold nmKind at h
  split at h
  · assumption
  · split at h
    · omega
    · split at h <;> omega
theorem kind_three {m : List UInt8} (h : nmKind m = 3) : nmKw m = true := by
  unfold nmKind at h
  split at h
  · omega
  · split at h
    · omega
    · split at h
      · assumption
      · omega
theorem kw_three {m : List UInt8} (h : nmKw m = true) : nmKind m = 3 := by
  obtain ⟨a, ha⟩ := kw_end h
  have hm : (58 : UInt8) ∈ m := by rw [ha]; simp
  have h1 : nmLower m = false := by
    rw [Bool.eq_false_iff]
    intro hl
    have := List.all_eq_true.1 (nmLower_word hl).1 58 hm
    rw [wrdB_colon] at this
    cases this
  have h2 : nmBin m = false := by
    rw [Bool.eq_false_iff]
    intro hl
    have := List.all_eq_true.1 (bin_all hl).2 58 hm
    rw [binB_colon] at this
    cases this
  simp [nmKind, h1, h2, h]
/-- No selector goes on beyond this word: then the best is the longest. -/
theorem sym_last {l : List UInt8} {a best : Nat} (h : SymSt l a best) (hn : 0 < wrdL (l.drop a)) (hmore : ∀ j, a + wrdL (l.drop a) < j → j ≤ l.length → nmLower (l.take j) = false ∧ nmKw (l.take j) = false) :
    symL l = symBest l a (wrdL (l.drop a)) best := by
  obtain ⟨c, r, hl, hc⟩ := sym_head h hn
  obtain ⟨hr, _⟩ := wrdL_run hn
  obtain ⟨n, hN⟩ : ∃ n, n = wrdL (l.drop a) := ⟨_, rfl⟩
  rw [← hN] at hn hmore hr ⊢
  have hnl : a + n ≤ l.length ∨ l.length < a := by
    have := runL_le wrdB (l.drop a)
    rw [← hr, List.length_drop] at this
    omega
  have hal : a ≤ l.length := by
    rcases h with ⟨rfl, _⟩ | ⟨_, _, h, _⟩
    · omega
    · exact h
  have hno : ∀ j, a < j → candB l j = true → a = 0 ∧ j = n ∧ nmLower (l.take n) = true := by
    intro j h1 hj
    have hk := cand_kind hj
    have hjl := cand_le hj
    rcases Nat.lt_or_ge (a + n) j with h2 | h2
    · obtain ⟨h3, h4⟩ := hmore j h2 hjl
      exfalso
      rcases kind_pos hk with h | h | h
      · rw [h3] at h; cases h
      · rw [not_bin hl hc] at h; cases h
      · rw [h4] at h; cases h
    · rcases kind_pos hk with h3 | h3 | h3
      · rcases h with ⟨rfl, _⟩ | ⟨_, _, _, hkw⟩
        · rcases Nat.lt_or_ge j n with h4 | h4
          · exfalso
            unfold candB at hj
            simp only [Bool.and_eq_true] at hj
            have hw := hj.2
            rw [List.drop_zero] at hr
            have hjn : ∃ d, l[j]? = some d ∧ wrdB d = true := by
              have hlt : j < l.length := by omega
              exact ⟨_, List.getElem?_eq_getElem hlt, runL_all wrdB l j _ (by omega) (List.getElem?_eq_getElem hlt)⟩
            obtain ⟨d, hd1, hd2⟩ := hjn
            have hjm : l[j - 1]? ≠ some 58 := by
              intro h5
              have := runL_all wrdB l (j - 1) 58 (by omega) h5
              rw [wrdB_colon] at this
              cases this
            subst hl
            change (!letB c || _ || _) = true at hw
            rw [hc, hd1] at hw
            simp [hd2] at hw
            exact hjm hw
          · have : j = n := by omega
            subst this
            exact ⟨rfl, rfl, h3⟩
        · rw [not_lower hkw (Nat.le_of_lt h1)] at h3
          cases h3
      · rw [not_bin hl hc] at h3; cases h3
      · rw [not_kw h1 (by rw [← hr]; exact h2) hjl] at h3; cases h3
  unfold symBest
  split
  · rename_i hcond
    obtain ⟨rfl, hk1⟩ := hcond
    refine symL_of (.inr ?_) fun j hj => ?_
    · unfold candB
      simp only [Bool.and_eq_true, decide_eq_true_eq]
      refine ⟨⟨by omega, by omega⟩, ?_⟩
      have h5 : (match l[n]? with | some d => wrdB d | none => false) = false := by
        rcases hd : l[n]? with _ | d
        · rfl
        · rw [List.drop_zero] at hr
          exact runL_end wrdB l d (by rw [← hr]; exact hd)
      subst hl
      show (!letB c || _ || !_) = true
      rw [h5]
      simp
    · rcases Nat.eq_zero_or_pos j with h1 | h1
      · omega
      · have := (hno j h1 hj).2.1
        omega
  · rename_i hcond
    refine symL_of ?_ fun j hj => ?_
    · rcases h with ⟨_, rfl⟩ | ⟨h1, rfl, h2, h3⟩
      · exact .inl rfl
      · exact .inr (cand_kw h1 h2 h3)
    · rcases Nat.lt_or_ge a j with h1 | h1
      · obtain ⟨h2, h3, h4⟩ := hno j h1 hj
        exact absurd ⟨h2, kind_of_lower h4⟩ hcond
      · rcases h with ⟨h2, h3⟩ | ⟨_, h3, _, _⟩ <;> omega
theorem sym_open {l : List UInt8} {a best : Nat} (h : SymSt l a best) (hn : 0 < wrdL (l.drop a)) (hc : l[a + wrdL (l.drop a)]? ≠ some 58) : symL l = symBest l a (wrdL (l.drop a)) best := by
  refine sym_last h hn fun j h1 h2 => ?_
  obtain ⟨hr, _⟩ := wrdL_run hn
  obtain ⟨d, hd⟩ : ∃ d, l[a + wrdL (l.drop a)]? = some d := ⟨_, List.getElem?_eq_getElem (by omega)⟩
  have hw : wrdB d = false := runL_end wrdB (l.drop a) d (by rw [← hr, List.getElem?_drop]; exact hd)
  have hm : d ∈ l.take j := by
    refine List.mem_of_getElem? (i := a + wrdL (l.drop a)) ?_
    rw [List.getElem?_take, if_pos h1, hd]
  constructor
  · rw [Bool.eq_false_iff]
    intro hl
    have := List.all_eq_true.1 (nmLower_word hl).1 d hm
    rw [hw] at this
    cases this
  · rw [Bool.eq_false_iff]
    intro hk
    rcases kw_chars hk hm with h3 | h3
    · rw [hw] at h3
      cases h3
    · rw [hd, h3] at hc
      exact hc rfl
theorem take_colon {l : List UInt8} {k : Nat} (hc : l[k]? = some 58) : l.take (k + 1) = l.take k ++ [58] := by
  have hlt := (List.getElem?_eq_some_iff.1 hc).1
  rw [List.take_add_one, hc]
  rfl
theorem sym_shut {l : List UInt8} {a best : Nat} (h : SymSt l a best) (hn : 0 < wrdL (l.drop a)) (hc : l[a + wrdL (l.drop a)]? = some 58) (hk : nmKind (l.take (a + wrdL (l.drop a) + 1)) ≠ 3) : symL l = symBest l a (wrdL (l.drop a)) best := by
  refine sym_last h hn fun j h1 h2 => ?_
  have e1 := take_colon hc
  have e2 : l.take j = l.take (a + wrdL (l.drop a)) ++ 58 :: (l.drop (a + wrdL (l.drop a) + 1)).take (j - (a + wrdL (l.drop a) + 1)) := by
    rw [take_split l (show a + wrdL (l.drop a) + 1 ≤ j from h1), e1, List.append_assoc, List.singleton_append]
  constructor
  · rw [Bool.eq_false_iff]
    intro hl
    have := List.all_eq_true.1 (nmLower_word hl).1 58 (by rw [e2]; simp)
    rw [wrdB_colon] at this
    cases this
  · rw [Bool.eq_false_iff]
    intro hl
    rw [e2] at hl
    have := kw_prefix hl
    rw [← e1] at this
    exact hk (kw_three this)
theorem sym_next {l : List UInt8} {a : Nat} (hc : l[a + wrdL (l.drop a)]? = some 58) (hk : nmKind (l.take (a + wrdL (l.drop a) + 1)) = 3) : SymSt l (a + wrdL (l.drop a) + 1) (a + wrdL (l.drop a) + 1) :=
  .inr ⟨by omega, rfl, (List.getElem?_eq_some_iff.1 hc).1, kind_three hk⟩
end Go.Proofs.YtpjpmlhnhcmacaaGreatDoor
