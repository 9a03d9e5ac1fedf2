/- Plain law of the journal: what Format, Put, Recover, Get do with a disk; behind any failure and crash the old text or the new one is there. -/
import Derived.Test.YtjmehamkpmimkaaDskC
import Derived.Test.YtjmehamkpmimkaaRdrP
namespace Go.Proofs.Ytjmehamkpmimkaa
open Go.RowKit

/-! ### what the calls do -/

/-- A call of a disk. -/
abbrev DStep := DSt → DSt × Int
def DSt.sync : DStep := fun s => (if s.on = true then ⟨s.img, [], s.spend.left⟩ else s, if s.on = true then 0 else 20)
/-- Calls up to the first error. -/
def jRun : List DStep → DStep
  | [], s => (s, 0)
  | f :: fs, s => if (f s).2 = 0 then jRun fs (f s).1 else f s
/-- Octets from a sector on. -/
def jLayN : Nat → Nat → List UInt8 → DStep
  | 0, _, _, s => (s, 0)
  | m + 1, k, b, s => if (s.write k (b.take 64)).2 = 0 then jLayN m (k + 1) (b.drop 64) (s.write k (b.take 64)).1 else s.write k (b.take 64)
def jLay (k : Nat) (b : List UInt8) : DStep := jLayN (b.length / 64) k b

theorem jRun_append (l m : List DStep) (s : DSt) : jRun (l ++ m) s = if (jRun l s).2 = 0 then jRun m (jRun l s).1 else jRun l s := by
  induction l generalizing s with
  | nil => simp [jRun]
  | cons f l ih =>
    rw [List.cons_append, jRun, jRun]
    by_cases h : (f s).2 = 0
    · rw [if_pos h, if_pos h, ih]
    · rw [if_neg h, if_neg h, if_neg h]

def jA (n : Nat) : Nat := (n - 2) / 2
def jRoom (n : Int) : Int := if n < 1 ∨ 65536 < n then -1 else if n < 4 then -1 else (n - 2) / 2 * 64 - 12
def jArea (a : Nat) (t : List UInt8) : List UInt8 := beBytes 4 t.length ++ t ++ List.replicate (64 * a - (4 + t.length)) 0
def jMark (n x : Nat) : List UInt8 := sealed (beBytes 4 1297043028 ++ beBytes 4 n ++ sumOctets x ++ List.replicate 48 0)
def DSt.secs (s : DSt) : Nat := s.S.length / 64
def DSt.home (s : DSt) : Nat := 1 + jA s.secs
def jFits (s : DSt) (t : List UInt8) : Int := if jRoom s.secs < 0 then 2 else if jRoom s.secs < (t.length : Int) then 21 else 0
def jFormat (t : List UInt8) (s : DSt) : DSt × Int :=
  if jFits s t = 0 then jRun [jLay s.home (jArea (jA s.secs) t), DSt.sync, jLay 0 (jMark 0 0), DSt.sync] s else (s, jFits s t)
def jSteps (h : Nat) (b : List UInt8) : List DStep := [jLay 1 b, DSt.sync, jLay 0 (jMark 1 (crcSum b)), DSt.sync, jLay h b, DSt.sync, jLay 0 (jMark 0 (crcSum b)), DSt.sync]
def jPut (t : List UInt8) (s : DSt) : DSt × Int := if jFits s t = 0 then jRun (jSteps s.home (jArea (jA s.secs) t)) s else (s, jFits s t)
def jnOf (a : Nat) (I : List UInt8) : List UInt8 := (I.drop 64).take (64 * a)
def hmOf (a : Nat) (I : List UInt8) : List UInt8 := (I.drop (64 + 64 * a)).take (64 * a)
/-- A number of four octets, the lowest first. -/
def leVal4 (l : List UInt8) : Nat := (l.getD 0 0).toNat + 256 * (l.getD 1 0).toNat + 65536 * (l.getD 2 0).toNat + 16777216 * (l.getD 3 0).toNat
def saidOf (H : List UInt8) : Nat := leVal4 (H.drop 8)
def jRecover (s : DSt) : DSt × Int :=
  if jRoom s.secs < 0 then (s, 2) else
  if sector s.img 0 = jMark 1 (crcSum (jnOf (jA s.secs) s.img)) then jRun [DSt.sync, jLay s.home (jnOf (jA s.secs) s.img), DSt.sync, jLay 0 (jMark 0 (crcSum (jnOf (jA s.secs) s.img))), DSt.sync] s
  else if sector s.img 0 = jMark 0 (saidOf (sector s.img 0)) then (s, 0) else jRun [jLay 0 (jMark 0 0), DSt.sync] s
def jGet (s : DSt) : List UInt8 × Int :=
  if jRoom s.secs < 0 then ([], 2) else
  if (rNum (hmOf (jA s.secs) s.img, 0)).2.2 = 0 ∧ ((rNum (hmOf (jA s.secs) s.img, 0)).1 : Int) ≤ jRoom s.secs then (((hmOf (jA s.secs) s.img).drop 4).take (rNum (hmOf (jA s.secs) s.img, 0)).1, 0) else ([], 11)

/-! ### forms -/
theorem sumOctets_len (x : Nat) : (sumOctets x).length = 4 := by simp [sumOctets]
theorem jMark_len (n x : Nat) : (jMark n x).length = 64 := by
  unfold jMark sealed
  simp [beBytes_len, sumOctets_len]
theorem jArea_len {a : Nat} {t : List UInt8} (h : 4 + t.length ≤ 64 * a) : (jArea a t).length = 64 * a := by
  unfold jArea
  simp [beBytes_len]
  omega
theorem jMark_ne {x y : Nat} : jMark 0 x ≠ jMark 1 y := by
  intro h
  have := congrArg (fun l => l[7]?) h
  revert this
  unfold jMark sealed
  simp [beBytes]
theorem take_app {α : Type} {a b c : List α} {n : Nat} (h : a.length = n) : ((a ++ b) ++ c).take n = a := by
  rw [List.append_assoc]; exact List.take_left' h

/-! ### what lies outside of sectors stays -/

/-- Only octets from sector k on, m sectors, may differ. -/
def Out (k m : Nat) (S I : List UInt8) : Prop := I.length = S.length ∧ ∀ i, i < 64 * k ∨ 64 * (k + m) ≤ i → I[i]? = S[i]?
theorem Out.refl (k m : Nat) (S : List UInt8) : Out k m S S := ⟨rfl, fun _ _ => rfl⟩
theorem out_lay {k m : Nat} {S I b : List UInt8} {n : Nat} (h : Out k m S I) (hn : k ≤ n) (hb : 64 * n + b.length ≤ 64 * (k + m)) (hl : 64 * n + b.length ≤ I.length) : Out k m S (layB I n b) := by
  refine ⟨(layB_length hl).trans h.1, fun i hi => ?_⟩
  rw [← h.2 i hi, layB, splice_get? _ _ _ _ hl]
  by_cases h1 : i < 64 * n
  · rw [if_pos h1]
  · rw [if_neg h1, if_neg (by omega)]
theorem out_sector {k m n : Nat} {S I : List UInt8} (h : Out k m S I) (hn : n < k ∨ k + m ≤ n) : sector I n = sector S n := by
  apply List.ext_getElem?
  intro i
  rw [sector_get?, sector_get?]
  by_cases hi : i < 64
  · rw [if_pos hi, if_pos hi, h.2 _ (by omega)]
  · rw [if_neg hi, if_neg hi]
theorem out_part {k m o N : Nat} {S I : List UInt8} (h : Out k m S I) (hn : o + N ≤ 64 * k ∨ 64 * (k + m) ≤ o) : (I.drop o).take N = (S.drop o).take N := by
  apply List.ext_getElem?
  intro i
  rw [List.getElem?_take, List.getElem?_take]
  by_cases hi : i < N
  · rw [if_pos hi, if_pos hi, List.getElem?_drop, List.getElem?_drop, h.2 _ (by omega)]
  · rw [if_neg hi, if_neg hi]
theorem lay_part {S b : List UInt8} {n : Nat} (h : 64 * n + b.length ≤ S.length) : ((layB S n b).drop (64 * n)).take b.length = b := by
  apply List.ext_getElem?
  intro i
  rw [List.getElem?_take]
  by_cases hi : i < b.length
  · rw [if_pos hi, List.getElem?_drop, layB, splice_get? _ _ _ _ h, if_neg (by omega), if_pos (by omega)]
    congr 1
    omega
  · rw [if_neg hi, List.getElem?_eq_none (by omega)]

/-- The writes of octets from a sector on. -/
def chunks : Nat → Nat → List UInt8 → List (Nat × List UInt8)
  | 0, _, _ => []
  | m + 1, k, b => (k, b.take 64) :: chunks m (k + 1) (b.drop 64)
theorem chunks_mem {m k : Nat} {b : List UInt8} (hb : 64 * m ≤ b.length) : ∀ x ∈ chunks m k b, k ≤ x.1 ∧ x.1 < k + m ∧ x.2.length = 64 := by
  induction m generalizing k b with
  | zero => intro x hx; cases hx
  | succ m ih =>
    intro x hx
    rcases List.mem_cons.1 hx with rfl | hx
    · refine ⟨Nat.le_refl _, by simp, ?_⟩
      show (b.take 64).length = 64
      rw [List.length_take]; omega
    · have := ih (by rw [List.length_drop]; omega) x hx
      omega
theorem lay_two {S b : List UInt8} {k : Nat} (hb : 64 ≤ b.length) (h : 64 * k + b.length ≤ S.length) : layB (layB S k (b.take 64)) (k + 1) (b.drop 64) = layB S k b := by
  have h1 : (b.take 64).length = 64 := by rw [List.length_take]; omega
  have h2 : (b.drop 64).length = b.length - 64 := List.length_drop
  have h3 : (layB S k (b.take 64)).length = S.length := layB_length (by omega)
  apply List.ext_getElem?
  intro i
  unfold layB at h3 ⊢
  rw [splice_get? _ _ _ _ (by omega), splice_get? _ _ _ _ (by omega), splice_get? _ _ _ _ (by omega), h1, h2]
  by_cases c1 : i < 64 * k
  · rw [if_pos (by omega), if_pos c1, if_pos c1]
  · by_cases c2 : i < 64 * k + 64
    · rw [if_pos (by omega), if_neg c1, if_pos c2, if_neg c1, if_pos (by omega), List.getElem?_take, if_pos (by omega)]
    · rw [if_neg (by omega)]
      by_cases c3 : i < 64 * (k + 1) + (b.length - 64)
      · rw [if_pos c3, if_neg c1, if_pos (by omega), List.getElem?_drop]
        congr 1
        omega
      · rw [if_neg c3, if_neg c1, if_neg c2, if_neg c1, if_neg (by omega)]
theorem img_chunks {m k : Nat} {S b : List UInt8} (hb : b.length = 64 * m) (h : 64 * k + b.length ≤ S.length) : imgOf S (chunks m k b) = layB S k b := by
  induction m generalizing k b S with
  | zero =>
    obtain rfl : b = [] := List.eq_nil_of_length_eq_zero (by omega)
    simp [chunks, imgOf, layB, splice]
  | succ m ih =>
    have h1 : (b.take 64).length = 64 := by rw [List.length_take]; omega
    show imgOf (layB S k (b.take 64)) (chunks m (k + 1) (b.drop 64)) = _
    rw [ih (by rw [List.length_drop]; omega) (by rw [layB_length (by omega), List.length_drop]; omega), lay_two (by omega) h]

/-! ### a half done step -/

/-- Only writes to sectors from k on, m of them, wait; what is sure is S. -/
def Half (k m : Nat) (S : List UInt8) (s : DSt) : Prop := s.S = S ∧ ∀ x ∈ s.ws, k ≤ x.1 ∧ x.1 < k + m ∧ x.2.length = 64

theorem crash_half {k m : Nat} {S : List UInt8} {s : DSt} (h : Half k m S s) (hS : 64 * (k + m) ≤ S.length) (keep : List Bool) (torn octets : Int) : Out k m S (s.crash keep torn octets).S := by
  obtain ⟨rfl, h⟩ := h
  show Out k m s.S (crTo keep torn (clamp octets) s.S s.ws s.ws.length)
  have key : ∀ j, Out k m s.S (crTo keep torn (clamp octets) s.S s.ws j) := by
    intro j
    induction j with
    | zero => exact Out.refl _ _ _
    | succ j ih =>
      unfold crTo
      split
      · rename_i x hx
        obtain ⟨h1, h2, h3⟩ := h x (List.mem_of_getElem? hx)
        unfold crStep
        split
        · have h4 : (x.2.take (clamp octets)).length ≤ 64 := by rw [List.length_take]; omega
          exact out_lay ih h1 (by omega) (by have := ih.1; omega)
        · split
          · exact out_lay ih h1 (by omega) (by have := ih.1; omega)
          · exact ih
      · exact ih
  exact key _

/-- What a write of a sector does that is there. -/
theorem write_there {s : DSt} {k : Nat} {b : List UInt8} (hb : b.length = 64) (hk : 64 * (k + 1) ≤ s.S.length) : s.write k b = if s.on = true then (s.spend.put k b, 0) else (s, 20) := by
  have ht : s.there (k : Int) = true := by
    unfold DSt.there
    simp
    omega
  unfold DSt.write
  rw [if_pos ⟨ht, hb⟩]
  rfl
theorem spend_parts (s : DSt) : s.spend.S = s.S ∧ s.spend.ws = s.ws ∧ (s.left = -1 → s.spend.left = -1) := by
  unfold DSt.spend
  split
  · exact ⟨rfl, rfl, fun h => by omega⟩
  · exact ⟨rfl, rfl, id⟩

theorem layN_cases (m : Nat) : ∀ (k : Nat) (b : List UInt8) (s : DSt), b.length = 64 * m → 64 * (k + m) ≤ s.S.length →
    (jLayN m k b s).1.S = s.S ∧ (∃ j, j ≤ m ∧ (jLayN m k b s).1.ws = s.ws ++ (chunks m k b).take j ∧ ((jLayN m k b s).2 = 0 → j = m)) ∧ ((jLayN m k b s).2 = 0 ∨ (jLayN m k b s).2 = 20) ∧ (s.left = -1 → (jLayN m k b s).2 = 0 ∧ (jLayN m k b s).1.left = -1) := by
  induction m with
  | zero => intro k b s _ _; exact ⟨rfl, ⟨0, Nat.le_refl _, by simp [jLayN], fun _ => rfl⟩, .inl rfl, fun h => ⟨rfl, h⟩⟩
  | succ m ih =>
    intro k b s hb hk
    have h1 : (b.take 64).length = 64 := by rw [List.length_take]; omega
    have hw := write_there (s := s) (k := k) (b := b.take 64) h1 (by omega)
    obtain ⟨p1, p2, p3⟩ := spend_parts s
    by_cases hon : s.on = true
    · rw [if_pos hon] at hw
      have hj : jLayN (m + 1) k b s = jLayN m (k + 1) (b.drop 64) (s.spend.put k (b.take 64)) := by rw [jLayN, hw]; rfl
      rw [hj]
      obtain ⟨q1, ⟨j, hj1, hj2, hj3⟩, q3, q4⟩ := ih (k + 1) (b.drop 64) (s.spend.put k (b.take 64)) (by rw [List.length_drop]; omega) (by show _ ≤ s.spend.S.length; rw [p1]; omega)
      refine ⟨q1.trans p1, ⟨j + 1, by omega, ?_, fun h => by have := hj3 h; omega⟩, q3, fun h => q4 (p3 h)⟩
      rw [hj2]
      show (s.spend.ws ++ [(k, b.take 64)]) ++ _ = _
      rw [p2, List.append_assoc]
      rfl
    · rw [if_neg hon] at hw
      have hj : jLayN (m + 1) k b s = (s, 20) := by rw [jLayN, hw]; rfl
      rw [hj]
      exact ⟨rfl, ⟨0, Nat.zero_le _, by simp, fun h => by cases h⟩, .inr rfl, fun h => absurd (show s.on = true by unfold DSt.on; simp; omega) hon⟩

/-- Octets from a sector on, and Sync: they are there, or not all, and nothing else. -/
theorem both_cases {k m : Nat} {b : List UInt8} {s : DSt} (hw : s.ws = []) (hb : b.length = 64 * m) (hk : 64 * (k + m) ≤ s.S.length) :
    ((jRun [jLay k b, DSt.sync] s).2 = 0 ∧ (jRun [jLay k b, DSt.sync] s).1.S = layB s.S k b ∧ (jRun [jLay k b, DSt.sync] s).1.ws = [] ∧ (s.left = -1 → (jRun [jLay k b, DSt.sync] s).1.left = -1)) ∨
    ((jRun [jLay k b, DSt.sync] s).2 = 20 ∧ Half k m s.S (jRun [jLay k b, DSt.sync] s).1 ∧ s.left ≠ -1) := by
  obtain ⟨q1, ⟨j, hj1, hj2, hj3⟩, q3, q4⟩ := layN_cases m k b s hb hk
  have hd : jLay k b s = jLayN m k b s := by unfold jLay; rw [hb, Nat.mul_div_cancel_left _ (by omega)]
  rw [← hd] at q1 hj2 hj3 q3 q4
  rw [hw, List.nil_append] at hj2
  have hmem : ∀ x ∈ (jLay k b s).1.ws, k ≤ x.1 ∧ x.1 < k + m ∧ x.2.length = 64 := fun x hx => chunks_mem (by omega) x (List.mem_of_mem_take (hj2 ▸ hx))
  rcases q3 with h0 | h0
  · have hr : jRun [jLay k b, DSt.sync] s = jRun [DSt.sync] (jLay k b s).1 := by rw [jRun, if_pos h0]
    rw [hr]
    have hjm := hj3 h0
    rw [hjm] at hj2
    obtain ⟨t, ht⟩ : ∃ t, t = (jLay k b s).1 := ⟨_, rfl⟩
    rw [← ht] at q1 hj2 hmem q4 ⊢
    obtain ⟨p1, p2, p3⟩ := spend_parts t
    by_cases hon : t.on = true
    · have hs : t.sync = (⟨t.img, [], t.spend.left⟩, 0) := by unfold DSt.sync; rw [if_pos hon, if_pos hon]
      have hr2 : jRun [DSt.sync] t = (⟨t.img, [], t.spend.left⟩, 0) := by rw [jRun, hs]; rfl
      rw [hr2]
      refine .inl ⟨rfl, ?_, rfl, fun h => p3 (q4 h).2⟩
      show imgOf t.S t.ws = _
      rw [q1, hj2, List.take_of_length_le (by
        have : ∀ (m k : Nat) (b : List UInt8), (chunks m k b).length = m := by
          intro m
          induction m with
          | zero => intro _ _; rfl
          | succ m ih => intro k b; rw [chunks, List.length_cons, ih]
        rw [this]; exact Nat.le_refl _)]
      exact img_chunks hb (by omega)
    · have hs : t.sync = (t, 20) := by unfold DSt.sync; rw [if_neg hon, if_neg hon]
      have hr2 : jRun [DSt.sync] t = (t, 20) := by rw [jRun, hs]; rfl
      rw [hr2]
      exact .inr ⟨rfl, ⟨q1, hmem⟩, fun h => hon (by have := (q4 h).2; unfold DSt.on; simp; omega)⟩
  · have hr : jRun [jLay k b, DSt.sync] s = jLay k b s := by rw [jRun, if_neg (by rw [h0]; decide)]
    rw [hr]
    exact .inr ⟨h0, ⟨q1, hmem⟩, fun h => by have := (q4 h).1; omega⟩

/-! ### the law -/

/-- What may be on a disk, that has the old area or the new one. -/
def Inv (a : Nat) (Ao An I : List UInt8) : Prop :=
  (jnOf a I = An ∧ sector I 0 = jMark 1 (crcSum An)) ∨ ((hmOf a I = Ao ∨ hmOf a I = An) ∧ (jnOf a I = An ∨ ∃ x, x < 4294967296 ∧ sector I 0 = jMark 0 x))

section
variable {a : Nat} {S I b : List UInt8}
theorem jn_out {k m : Nat} (h : Out k m S I) (hk : k + m ≤ 1 ∨ 1 + a ≤ k) : jnOf a I = jnOf a S := out_part h (by omega)
theorem hm_out {k m : Nat} (h : Out k m S I) (hk : k + m ≤ 1 + a ∨ 1 + 2 * a ≤ k) : hmOf a I = hmOf a S := out_part h (by omega)
theorem hd_lay (hb : b.length = 64) (h : 64 ≤ S.length) : sector (layB S 0 b) 0 = b := sector_same hb (by omega)
theorem jn_lay (hb : b.length = 64 * a) (h : 64 * (1 + 2 * a) ≤ S.length) : jnOf a (layB S 1 b) = b := by
  have := lay_part (S := S) (b := b) (n := 1) (by omega)
  rw [hb] at this
  exact this
theorem hm_lay (hb : b.length = 64 * a) (h : 64 * (1 + 2 * a) ≤ S.length) : hmOf a (layB S (1 + a) b) = b := by
  have := lay_part (S := S) (b := b) (n := 1 + a) (by omega)
  rw [hb, show 64 * (1 + a) = 64 + 64 * a by omega] at this
  exact this
theorem lay_out (k m : Nat) (hb : b.length = 64 * m) (h : 64 * (k + m) ≤ S.length) : Out k m S (layB S k b) := out_lay (Out.refl k m S) (Nat.le_refl _) (by omega) (by omega)
end

theorem sumOctets_val {x : Nat} (h : x < 4294967296) : leVal4 (sumOctets x) = x := by
  unfold leVal4 sumOctets
  simp
  omega
theorem leVal4_app {x : List UInt8} (y : List UInt8) (h : x.length = 4) : leVal4 (x ++ y) = leVal4 x := by
  match x, h with
  | [a, b, c, d], _ => rfl
theorem saidOf_mark {n x : Nat} (h : x < 4294967296) : saidOf (jMark n x) = x := by
  unfold saidOf jMark sealed
  have e : ∀ S : List UInt8, (beBytes 4 1297043028 ++ beBytes 4 n ++ sumOctets x ++ List.replicate 48 0 ++ S).drop 8 = sumOctets x ++ (List.replicate 48 0 ++ S) := by
    intro S
    have : (beBytes 4 1297043028 ++ beBytes 4 n).length = 8 := by simp [beBytes_len]
    rw [List.append_assoc, List.append_assoc]
    exact List.drop_left' this
  rw [e, leVal4_app _ (sumOctets_len x), sumOctets_val h]

theorem phase {k m : Nat} {b : List UInt8} {s : DSt} (rest : List DStep) (hw : s.ws = []) (hb : b.length = 64 * m) (hk : 64 * (k + m) ≤ s.S.length) :
    (∃ s', jRun (jLay k b :: DSt.sync :: rest) s = jRun rest s' ∧ s'.S = layB s.S k b ∧ s'.ws = [] ∧ (s.left = -1 → s'.left = -1)) ∨
    ((jRun (jLay k b :: DSt.sync :: rest) s).2 = 20 ∧ Half k m s.S (jRun (jLay k b :: DSt.sync :: rest) s).1 ∧ s.left ≠ -1) := by
  have e : jRun (jLay k b :: DSt.sync :: rest) s = if (jRun [jLay k b, DSt.sync] s).2 = 0 then jRun rest (jRun [jLay k b, DSt.sync] s).1 else jRun [jLay k b, DSt.sync] s := jRun_append [jLay k b, DSt.sync] rest s
  rcases both_cases hw hb hk with ⟨h1, h2, h3, h4⟩ | ⟨h1, h2, h3⟩
  · rw [if_pos h1] at e
    exact .inl ⟨_, e, h2, h3, h4⟩
  · rw [if_neg (by rw [h1]; decide)] at e
    rw [e]
    exact .inr ⟨h1, h2, h3⟩

/-- A call that failed: whatever a crash leaves is sound. -/
def Failed (a N : Nat) (Ao An : List UInt8) (r : DSt × Int) : Prop :=
  r.2 = 20 ∧ ∃ k m T, T.length = N ∧ 64 * (k + m) ≤ N ∧ Half k m T r.1 ∧ ∀ I, Out k m T I → Inv a Ao An I
/-- A call that was OK: the area stands, the head has the mark 0. -/
def Stood (a N : Nat) (A : List UInt8) (r : DSt × Int) : Prop :=
  r.2 = 0 ∧ r.1.ws = [] ∧ r.1.S.length = N ∧ hmOf a r.1.S = A ∧ ∃ x, x < 4294967296 ∧ sector r.1.S 0 = jMark 0 x

theorem jRoom_of {M : Nat} (h4 : 4 ≤ M) (hM : M ≤ 65536) : jRoom M = ((64 * jA M - 12 : Nat) : Int) := by
  unfold jRoom jA
  rw [if_neg (by omega), if_neg (by omega)]
  omega

theorem steps_safe {a N : Nat} {s : DSt} {An Ao : List UInt8} (hS : s.S.length = N) (hN : 64 * (1 + 2 * a) ≤ N) (ha : 1 ≤ a) (hws : s.ws = []) (hAn : An.length = 64 * a) (hAo : hmOf a s.S = Ao) (hx : ∃ x, x < 4294967296 ∧ sector s.S 0 = jMark 0 x) :
    Stood a N An (jRun (jSteps (1 + a) An) s) ∨ (Failed a N Ao An (jRun (jSteps (1 + a) An) s) ∧ s.left ≠ -1) := by
  unfold jSteps
  have hc := crcSum_lt An
  have hc : crcSum An < 4294967296 := by simpa using hc
  have hm1 := jMark_len 1 (crcSum An)
  have hm0 := jMark_len 0 (crcSum An)
  rcases phase (m := a) [jLay 0 (jMark 1 (crcSum An)), DSt.sync, jLay (1 + a) An, DSt.sync, jLay 0 (jMark 0 (crcSum An)), DSt.sync] hws hAn (show 64 * (1 + a) ≤ s.S.length by omega) with ⟨s1, e1, S1, w1, l1⟩ | ⟨f1, f2, f3⟩
  rotate_left
  · refine .inr ⟨⟨f1, 1, a, s.S, hS, by omega, f2, fun I hI => .inr ⟨.inl ((hm_out hI (by omega)).trans hAo), .inr ?_⟩⟩, f3⟩
    obtain ⟨x, h1, h2⟩ := hx
    exact ⟨x, h1, (out_sector hI (by omega)).trans h2⟩
  have o1 : Out 1 a s.S s1.S := S1 ▸ lay_out 1 a hAn (by omega)
  have hS1 : s1.S.length = N := o1.1.trans hS
  have j1 : jnOf a s1.S = An := S1 ▸ jn_lay hAn (by omega)
  have h1 : hmOf a s1.S = Ao := (hm_out o1 (by omega)).trans hAo
  rw [e1]
  rcases phase (m := 1) [jLay (1 + a) An, DSt.sync, jLay 0 (jMark 0 (crcSum An)), DSt.sync] w1 hm1 (show 64 * (0 + 1) ≤ s1.S.length by omega) with ⟨s2, e2, S2, w2, l2⟩ | ⟨f1, f2, f3⟩
  rotate_left
  · refine .inr ⟨⟨f1, 0, 1, s1.S, hS1, by omega, f2, fun I hI => .inr ⟨.inl ((hm_out hI (by omega)).trans h1), .inl ((jn_out hI (by omega)).trans j1)⟩⟩, fun h => f3 (l1 h)⟩
  have o2 : Out 0 1 s1.S s2.S := S2 ▸ lay_out 0 1 hm1 (by omega)
  have hS2 : s2.S.length = N := o2.1.trans hS1
  have j2 : jnOf a s2.S = An := (jn_out o2 (by omega)).trans j1
  have d2 : sector s2.S 0 = jMark 1 (crcSum An) := S2 ▸ hd_lay hm1 (by omega)
  rw [e2]
  rcases phase (m := a) [jLay 0 (jMark 0 (crcSum An)), DSt.sync] w2 hAn (show 64 * (1 + a + a) ≤ s2.S.length by omega) with ⟨s3, e3, S3, w3, l3⟩ | ⟨f1, f2, f3⟩
  rotate_left
  · refine .inr ⟨⟨f1, 1 + a, a, s2.S, hS2, by omega, f2, fun I hI => .inl ⟨(jn_out hI (by omega)).trans j2, (out_sector hI (by omega)).trans d2⟩⟩, fun h => f3 (l2 (l1 h))⟩
  have o3 : Out (1 + a) a s2.S s3.S := S3 ▸ lay_out (1 + a) a hAn (by omega)
  have hS3 : s3.S.length = N := o3.1.trans hS2
  have j3 : jnOf a s3.S = An := (jn_out o3 (by omega)).trans j2
  have h3 : hmOf a s3.S = An := S3 ▸ hm_lay hAn (by omega)
  rw [e3]
  rcases phase (m := 1) [] w3 hm0 (show 64 * (0 + 1) ≤ s3.S.length by omega) with ⟨s4, e4, S4, w4, l4⟩ | ⟨f1, f2, f3⟩
  rotate_left
  · exact .inr ⟨⟨f1, 0, 1, s3.S, hS3, by omega, f2, fun I hI => .inr ⟨.inr ((hm_out hI (by omega)).trans h3), .inl ((jn_out hI (by omega)).trans j3)⟩⟩, fun h => f3 (l3 (l2 (l1 h)))⟩
  have o4 : Out 0 1 s3.S s4.S := S4 ▸ lay_out 0 1 hm0 (by omega)
  rw [e4]
  exact .inl ⟨rfl, w4, o4.1.trans hS3, (hm_out o4 (by omega)).trans h3, _, hc, S4 ▸ hd_lay hm0 (by omega)⟩

/-- What Recover does with a sound disk on which nothing waits. -/
theorem recover_safe {a N : Nat} {s : DSt} {An Ao : List UInt8} (hS : s.S.length = N) (hN : 64 * (1 + 2 * a) ≤ N) (ha : 1 ≤ a) (hj : a = jA s.secs) (hr : 0 ≤ jRoom s.secs) (hws : s.ws = []) (hAn : An.length = 64 * a) (hI : Inv a Ao An s.S) :
    (Stood a N Ao (jRecover s) ∨ Stood a N An (jRecover s)) ∨ (Failed a N Ao An (jRecover s) ∧ s.left ≠ -1) := by
  have himg : s.img = s.S := by unfold DSt.img; rw [hws]; rfl
  have hc := crcSum_lt An
  have hc : crcSum An < 4294967296 := by simpa using hc
  have hm0 := jMark_len 0 (crcSum An)
  unfold jRecover
  rw [if_neg (by omega), himg, ← hj, show s.home = 1 + a by unfold DSt.home; rw [← hj]]
  by_cases h1 : sector s.S 0 = jMark 1 (crcSum (jnOf a s.S))
  · rw [if_pos h1]
    have hjn : jnOf a s.S = An := by
      rcases hI with ⟨h, _⟩ | ⟨_, h | ⟨x, _, h⟩⟩
      · exact h
      · exact h
      · rw [h] at h1; exact absurd h1 jMark_ne
    rw [hjn] at h1 ⊢
    have hA : Inv a Ao An s.S := .inl ⟨hjn, h1⟩
    by_cases hon : s.on = true
    · have hs : s.sync = (⟨s.S, [], s.spend.left⟩, 0) := by unfold DSt.sync; rw [if_pos hon, if_pos hon, himg]
      obtain ⟨s0, hs0⟩ : ∃ s0 : DSt, s0 = ⟨s.S, [], s.spend.left⟩ := ⟨_, rfl⟩
      have hl0 : s.left = -1 → s0.left = -1 := fun h => by rw [hs0]; exact (spend_parts s).2.2 h
      have hS0 : s0.S = s.S := by rw [hs0]
      have hw0 : s0.ws = [] := by rw [hs0]
      have e : jRun [DSt.sync, jLay (1 + a) An, DSt.sync, jLay 0 (jMark 0 (crcSum An)), DSt.sync] s = jRun [jLay (1 + a) An, DSt.sync, jLay 0 (jMark 0 (crcSum An)), DSt.sync] s0 := by rw [jRun, hs, hs0]; rfl
      rw [e]
      rcases phase (m := a) [jLay 0 (jMark 0 (crcSum An)), DSt.sync] hw0 hAn (show 64 * (1 + a + a) ≤ s0.S.length by rw [hS0]; omega) with ⟨s3, e3, S3, w3, l3⟩ | ⟨f1, f2, f3⟩
      rotate_left
      · refine .inr ⟨⟨f1, 1 + a, a, s0.S, by rw [hS0, hS], by omega, f2, fun I hI => ?_⟩, fun h => f3 (hl0 h)⟩
        rw [hS0] at hI
        exact .inl ⟨(jn_out hI (by omega)).trans hjn, (out_sector hI (by omega)).trans h1⟩
      rw [hS0] at S3
      have o3 : Out (1 + a) a s.S s3.S := S3 ▸ lay_out (1 + a) a hAn (by omega)
      have hS3 : s3.S.length = N := o3.1.trans hS
      have j3 : jnOf a s3.S = An := (jn_out o3 (by omega)).trans hjn
      have h3 : hmOf a s3.S = An := S3 ▸ hm_lay hAn (by omega)
      rw [e3]
      rcases phase (m := 1) [] w3 hm0 (show 64 * (0 + 1) ≤ s3.S.length by omega) with ⟨s4, e4, S4, w4, l4⟩ | ⟨f1, f2, f3⟩
      rotate_left
      · exact .inr ⟨⟨f1, 0, 1, s3.S, hS3, by omega, f2, fun I hI => .inr ⟨.inr ((hm_out hI (by omega)).trans h3), .inl ((jn_out hI (by omega)).trans j3)⟩⟩, fun h => f3 (l3 (hl0 h))⟩
      have o4 : Out 0 1 s3.S s4.S := S4 ▸ lay_out 0 1 hm0 (by omega)
      rw [e4]
      exact .inl (.inr ⟨rfl, w4, o4.1.trans hS3, (hm_out o4 (by omega)).trans h3, _, hc, S4 ▸ hd_lay hm0 (by omega)⟩)
    · have hs : s.sync = (s, 20) := by unfold DSt.sync; rw [if_neg hon, if_neg hon]
      have e : jRun [DSt.sync, jLay (1 + a) An, DSt.sync, jLay 0 (jMark 0 (crcSum An)), DSt.sync] s = (s, 20) := by rw [jRun, hs]; rfl
      rw [e]
      refine .inr ⟨⟨rfl, 0, 0, s.S, hS, by omega, ⟨rfl, fun x hx => by rw [hws] at hx; cases hx⟩, fun I hO => ?_⟩, fun h => hon (by unfold DSt.on; simp; omega)⟩
      have : I = s.S := by
        apply List.ext_getElem?
        intro i
        exact hO.2 i (by omega)
      rw [this]
      exact hA
  · rw [if_neg h1]
    have hB : (hmOf a s.S = Ao ∨ hmOf a s.S = An) ∧ (jnOf a s.S = An ∨ ∃ x, x < 4294967296 ∧ sector s.S 0 = jMark 0 x) := by
      rcases hI with ⟨h, h2⟩ | h
      · rw [h] at h1; exact absurd h2 h1
      · exact h
    by_cases h2 : sector s.S 0 = jMark 0 (saidOf (sector s.S 0))
    · rw [if_pos h2]
      have hx : ∃ x, x < 4294967296 ∧ sector s.S 0 = jMark 0 x := by
        refine ⟨saidOf (sector s.S 0), ?_, h2⟩
        unfold saidOf leVal4
        have q : ∀ u : UInt8, u.toNat < 256 := fun u => u.toNat_lt
        have q0 := q ((List.drop 8 (sector s.S 0)).getD 0 0)
        have q1 := q ((List.drop 8 (sector s.S 0)).getD 1 0)
        have q2 := q ((List.drop 8 (sector s.S 0)).getD 2 0)
        have q3 := q ((List.drop 8 (sector s.S 0)).getD 3 0)
        omega
      rcases hB.1 with h | h
      · exact .inl (.inl ⟨rfl, hws, hS, h, hx⟩)
      · exact .inl (.inr ⟨rfl, hws, hS, h, hx⟩)
    · rw [if_neg h2]
      have hjn : jnOf a s.S = An := by
        rcases hB.2 with h | ⟨x, hx, h⟩
        · exact h
        · exact absurd (by rw [h, saidOf_mark hx]) h2
      rcases phase (m := 1) [] hws (jMark_len 0 0) (show 64 * (0 + 1) ≤ s.S.length by omega) with ⟨s4, e4, S4, w4, l4⟩ | ⟨f1, f2, f3⟩
      rotate_left
      · refine .inr ⟨⟨f1, 0, 1, s.S, hS, by omega, f2, fun I hI => .inr ⟨?_, .inl ((jn_out hI (by omega)).trans hjn)⟩⟩, f3⟩
        rw [hm_out hI (by omega)]
        exact hB.1
      have o4 : Out 0 1 s.S s4.S := S4 ▸ lay_out 0 1 (jMark_len 0 0) (by omega)
      rw [e4]
      have hx : ∃ x, x < 4294967296 ∧ sector s4.S 0 = jMark 0 x := ⟨0, by omega, S4 ▸ hd_lay (jMark_len 0 0) (by omega)⟩
      rcases hB.1 with h | h
      · exact .inl (.inl ⟨rfl, w4, o4.1.trans hS, (hm_out o4 (by omega)).trans h, hx⟩)
      · exact .inl (.inr ⟨rfl, w4, o4.1.trans hS, (hm_out o4 (by omega)).trans h, hx⟩)

/-- A disk that stands is sound, old and new being alike. -/
theorem Stood.inv {a N : Nat} {A : List UInt8} {r : DSt × Int} (h : Stood a N A r) : Inv a A A r.1.S := .inr ⟨.inl h.2.2.2.1, .inr h.2.2.2.2⟩
/-- A second Recover changes nothing. -/
theorem recover_again {s : DSt} (hr : 0 ≤ jRoom s.secs) (hws : s.ws = []) (hx : ∃ x, x < 4294967296 ∧ sector s.S 0 = jMark 0 x) : jRecover s = (s, 0) := by
  have himg : s.img = s.S := by unfold DSt.img; rw [hws]; rfl
  obtain ⟨x, hx, h⟩ := hx
  unfold jRecover
  rw [if_neg (by omega), himg, h, if_neg jMark_ne, saidOf_mark hx, if_pos rfl]
theorem get_area {a : Nat} {s : DSt} {t : List UInt8} (hj : a = jA s.secs) (h4 : 4 ≤ s.secs) (h6 : s.secs ≤ 65536) (hws : s.ws = []) (ht : t.length + 12 ≤ 64 * a) (hh : hmOf a s.S = jArea a t) : jGet s = (t, 0) := by
  have himg : s.img = s.S := by unfold DSt.img; rw [hws]; rfl
  have hroom := jRoom_of h4 h6
  rw [← hj] at hroom
  have ha : a ≤ 32767 := by rw [hj]; unfold jA; omega
  have hok : okNum (t.length : Int) = true := okNum_nat _ (by omega)
  have he : encNum (t.length : Int) = beBytes 4 t.length := by
    unfold encNum
    rw [if_neg (by omega)]
    rfl
  have hn : rNum (jArea a t, 0) = (t.length, (t ++ List.replicate (64 * a - (4 + t.length)) 0, 0)) := by
    have := rNum_enc t.length (t ++ List.replicate (64 * a - (4 + t.length)) 0) hok
    rw [he] at this
    unfold jArea
    rw [List.append_assoc]
    exact this
  unfold jGet
  rw [if_neg (by omega), himg, ← hj, hh, hn, hroom, if_pos ⟨rfl, by omega⟩]
  have hd : (jArea a t).drop 4 = t ++ List.replicate (64 * a - (4 + t.length)) 0 := by
    unfold jArea
    rw [List.append_assoc]
    exact List.drop_left' (beBytes_len 4 _)
  rw [hd]
  show (List.take t.length _, (0 : Int)) = _
  rw [List.take_left' rfl]
end Go.Proofs.Ytjmehamkpmimkaa
