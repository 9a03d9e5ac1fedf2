/- Plainly: the scan, octet by octet. -/
import Derived.Test.YtpjpmlhnhcmacaaGreatDoorScP
namespace Go.Proofs.YtpjpmlhnhcmacaaGreatDoor
open Go.RowKit

theorem nxtL_skip_by {d : List UInt8} {m : Nat} (h : skp d 0 none = skp (d.drop m) m none) : nxtL d = ((nxtL (d.drop m)).1 + m, (nxtL (d.drop m)).2) := by
  rw [skp_from (d.drop m) m] at h
  have h1 : d.drop ((skp (d.drop m) 0 none).1 + m) = (d.drop m).drop (skp (d.drop m) 0 none).1 := by rw [List.drop_drop, Nat.add_comm]
  unfold nxtL
  rw [h]
  simp only
  rw [h1]
  split
  · split <;> rfl
  · rfl
theorem scanW_skip_by {d : List UInt8} {m a : Nat} (h : skp d 0 none = skp (d.drop m) m none) : scanW d a = scanW (d.drop m) (a + m) := by
  rw [scanW_eq, scanW_eq, nxtL_skip_by h]
  rcases nxtL (d.drop m) with ⟨n, _ | ⟨t, k⟩⟩
  · simp only
    congr 1
    omega
  · simp only
    rw [List.drop_drop, show a + (n + m) = a + m + n by omega, show n + m + k = m + (n + k) by omega]
theorem scanW_blank {c : UInt8} {r : List UInt8} {a : Nat} (h : blankL.contains c = true) : scanW (c :: r) a = scanW r (a + 1) :=
  scanW_skip_by (d := c :: r) (m := 1) (by rw [skp, if_pos h]; rfl)
theorem skp_quote : ∀ (p : List UInt8) (q : List UInt8) (a s : Nat), (∀ c ∈ p, c ≠ 34) → skp (p ++ 34 :: q) a (some s) = skp q (a + p.length + 1) none
  | [], q, a, s, _ => by rw [List.nil_append, skp, if_pos rfl]; rfl
  | c :: p, q, a, s, h => by
    rw [List.cons_append, skp, if_neg (h c (List.mem_cons_self ..)), skp_quote p q (a + 1) s (fun d hd => h d (List.mem_cons_of_mem _ hd)), List.length_cons, show a + 1 + p.length + 1 = a + (p.length + 1) + 1 by omega]
theorem skp_open : ∀ (p : List UInt8) (a s : Nat), (∀ c ∈ p, c ≠ 34) → skp p a (some s) = (s, false)
  | [], a, s, _ => rfl
  | c :: p, a, s, h => by
    rw [skp, if_neg (h c (List.mem_cons_self ..)), skp_open p (a + 1) s (fun d hd => h d (List.mem_cons_of_mem _ hd))]
theorem scanW_rem {p q : List UInt8} {a : Nat} (h : ∀ c ∈ p, c ≠ 34) : scanW (34 :: (p ++ 34 :: q)) a = scanW q (a + p.length + 2) := by
  have h1 : (34 :: (p ++ 34 :: q)).drop (p.length + 2) = q := by
    rw [show p.length + 2 = (p.length + 1) + 1 by omega, List.drop_succ_cons, ← List.drop_drop, List.drop_left]
    rfl
  have h2 := scanW_skip_by (d := 34 :: (p ++ 34 :: q)) (m := p.length + 2) (a := a) (by
    rw [h1, skp, if_neg (by decide), if_pos rfl, skp_quote p q _ _ h, show 0 + 1 + p.length + 1 = p.length + 2 by omega])
  rw [h2, h1, Nat.add_assoc]
theorem scanW_open {p : List UInt8} {a : Nat} (h : ∀ c ∈ p, c ≠ 34) : scanW (34 :: p) a = .error a := by
  have h1 : skp (34 :: p) 0 none = (0, false) := by rw [skp, if_neg (by decide), if_pos rfl, skp_open p _ _ h]
  have h2 : nxtL (34 :: p) = (0, none) := by unfold nxtL; rw [h1]; rfl
  rw [scanW_eq, h2]
  rfl
theorem scanW_tok {c : UInt8} {r : List UInt8} {a : Nat} (h1 : blankL.contains c = false) (h2 : c ≠ 34) :
    scanW (c :: r) a = match tokL (c :: r) with | none => .error a | some (t, k) => pre [(t, a)] (scanW ((c :: r).drop k) (a + k)) := by
  have h3 : skp (c :: r) 0 none = (0, true) := by rw [skp, if_neg (by rw [h1]; decide), if_neg h2]
  have h4 : nxtL (c :: r) = (0, tokL (c :: r)) := by unfold nxtL; rw [h3]; rfl
  rw [scanW_eq, h4]
  rcases ht : tokL (c :: r) with _ | ⟨t, k⟩
  · rfl
  · have := (tokL_len ht).2.2
    simp only
    rw [if_neg (by omega), Nat.zero_add, Nat.add_zero]
theorem scanW_nil (a : Nat) : scanW [] a = .ok [(⟨0, [], 0⟩, a)] := rfl
theorem allL_W (l : List UInt8) : allL l = scanW l 0 := rfl
theorem pre_pre (x y : List (Tok × Nat)) (z : Except Nat (List (Tok × Nat))) : pre x (pre y z) = pre (x ++ y) z := by cases z <;> simp [pre]

/-- Behind some of a text's tokens. -/
structure RaSt (w : World) (l : List UInt8) (v : Value) (a : Nat) (done : List (Tok × Nat)) (wr : World) : Prop where
  le : a ≤ l.length
  eq : allL l = pre done (scanW (l.drop a) a)
  len : done.length ≤ a
  own : wr.ownsRow w.heap.size 32 4 v done.length (tkCells done)
  mod : Mod Nil w wr

theorem RaSt.blank {w wr : World} {l : List UInt8} {v : Value} {a : Nat} {done : List (Tok × Nat)} (h : RaSt w l v a done wr) {c : UInt8} (hc : l[a]? = some c) (hb : blankL.contains c = true) : RaSt w l v (a + 1) done wr := by
  have hlt := (List.getElem?_eq_some_iff.1 hc).1
  have hd : l.drop a = c :: l.drop (a + 1) := by rw [List.drop_eq_getElem_cons hlt, (List.getElem?_eq_some_iff.1 hc).2]
  exact ⟨hlt, by rw [h.eq, hd, scanW_blank hb], by have := h.len; omega, h.own, h.mod⟩
theorem seg_ne {l : List UInt8} {x : UInt8} {fr i : Nat} (h : ∀ j c, fr ≤ j → j < i → l[j]? = some c → c ≠ x) : ∀ c ∈ (l.drop fr).take (i - fr), c ≠ x := by
  intro c hc
  obtain ⟨j, hj⟩ := List.getElem?_of_mem hc
  rw [List.getElem?_take] at hj
  split at hj
  · rw [List.getElem?_drop] at hj
    exact h (fr + j) c (by omega) (by omega) hj
  · cases hj
theorem drop_seg (l : List UInt8) {a i : Nat} {c : UInt8} (h : a ≤ i) (hc : l[i]? = some c) : l.drop a = (l.drop a).take (i - a) ++ c :: l.drop (i + 1) := by
  have hlt := (List.getElem?_eq_some_iff.1 hc).1
  have h1 : (l.drop a).drop (i - a) = c :: l.drop (i + 1) := by
    rw [List.drop_drop, show a + (i - a) = i by omega, List.drop_eq_getElem_cons hlt, (List.getElem?_eq_some_iff.1 hc).2]
  rw [← h1, List.take_append_drop]
theorem RaSt.rem {w wr : World} {l : List UInt8} {v : Value} {a i : Nat} {done : List (Tok × Nat)} (h : RaSt w l v a done wr) (hc : l[a]? = some 34) (hi : a + 1 ≤ i) (hno : ∀ j c, a + 1 ≤ j → j < i → l[j]? = some c → c ≠ 34) (hq : l[i]? = some 34) : RaSt w l v (i + 1) done wr := by
  have hlt := (List.getElem?_eq_some_iff.1 hc).1
  have hlt2 := (List.getElem?_eq_some_iff.1 hq).1
  have hd : l.drop a = 34 :: l.drop (a + 1) := by rw [List.drop_eq_getElem_cons hlt, (List.getElem?_eq_some_iff.1 hc).2]
  have hs := drop_seg l hi hq
  refine ⟨hlt2, ?_, by have := h.len; omega, h.own, h.mod⟩
  rw [h.eq, hd, hs, scanW_rem (seg_ne hno)]
  have : ((l.drop (a + 1)).take (i - (a + 1))).length = i - (a + 1) := by rw [List.length_take, List.length_drop]; omega
  rw [this, show a + (i - (a + 1)) + 2 = i + 1 by omega]
theorem RaSt.remOpen {w wr : World} {l : List UInt8} {v : Value} {a : Nat} {done : List (Tok × Nat)} (h : RaSt w l v a done wr) (hc : l[a]? = some 34) (hno : ∀ j c, a + 1 ≤ j → j < l.length → l[j]? = some c → c ≠ 34) : allL l = .error a := by
  have hlt := (List.getElem?_eq_some_iff.1 hc).1
  have hd : l.drop a = 34 :: l.drop (a + 1) := by rw [List.drop_eq_getElem_cons hlt, (List.getElem?_eq_some_iff.1 hc).2]
  have hs := seg_ne hno
  rw [List.take_of_length_le (by rw [List.length_drop]; omega)] at hs
  rw [h.eq, hd, scanW_open hs]
  rfl
theorem RaSt.bad {w wr : World} {l : List UInt8} {v : Value} {a : Nat} {done : List (Tok × Nat)} (h : RaSt w l v a done wr) {c : UInt8} (hc : l[a]? = some c) (hb : blankL.contains c = false) (hq : c ≠ 34) (ht : tokL (l.drop a) = none) : allL l = .error a := by
  have hlt := (List.getElem?_eq_some_iff.1 hc).1
  have hd : l.drop a = c :: l.drop (a + 1) := by rw [List.drop_eq_getElem_cons hlt, (List.getElem?_eq_some_iff.1 hc).2]
  rw [hd] at ht
  rw [h.eq, hd, scanW_tok hb hq, ht]
  rfl
theorem RaSt.tok {w wr wr' : World} {l : List UInt8} {v v' : Value} {a k : Nat} {t : Tok} {done : List (Tok × Nat)} (h : RaSt w l v a done wr) {c : UInt8} (hc : l[a]? = some c) (hb : blankL.contains c = false) (hq : c ≠ 34) (ht : tokL (l.drop a) = some (t, k))
    (ho : wr'.ownsRow w.heap.size 32 4 v' (done.length + 1) (tkCells done ++ tkC (t, a))) (hm : Mod Nil w wr') : RaSt w l v' (a + k) (done ++ [(t, a)]) wr' := by
  have hlt := (List.getElem?_eq_some_iff.1 hc).1
  have hd : l.drop a = c :: l.drop (a + 1) := by rw [List.drop_eq_getElem_cons hlt, (List.getElem?_eq_some_iff.1 hc).2]
  have hl := tokL_len ht
  rw [List.length_drop] at hl
  refine ⟨by omega, ?_, by have := h.len; simp; omega, ?_, hm⟩
  · have h1 := h.eq
    rw [hd, scanW_tok hb hq, ← hd, ht] at h1
    simp only at h1
    rw [h1, pre_pre, List.drop_drop]
  · rw [tkCells_snoc, List.length_append, List.length_singleton]
    exact ho
theorem RaSt.fin {w wr : World} {l : List UInt8} {v : Value} {a : Nat} {done : List (Tok × Nat)} (h : RaSt w l v a done wr) (ha : ¬ a < l.length) : allL l = .ok (done ++ [(⟨0, [], 0⟩, l.length)]) := by
  have := h.le
  obtain rfl : a = l.length := by omega
  rw [h.eq, List.drop_length, scanW_nil]
  rfl
end Go.Proofs.YtpjpmlhnhcmacaaGreatDoor
