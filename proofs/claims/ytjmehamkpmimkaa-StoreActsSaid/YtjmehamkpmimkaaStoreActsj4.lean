/- Parts of the proof of StoreActs, joined: JrnP JrnQ JrnS JrnW JrnX JrnA. -/
import Derived.Test.YtjmehamkpmimkaaStoreActsj3
import Derived.Lib.AppendZerosOnto
import Derived.Deep.RegionWith
namespace Go.Proofs.Ytjmehamkpmimkaa
open Go.RowKit

/-! ### what the calls do -/

/-- A call of a disk. -/
abbrev DStep := DSt → DSt × Int
def DSt.sync : DStep := fun s => (if s.on = true then ⟨s.img, [], s.spend.left⟩ else s, if s.on = true then 0 else 20)
/-- Calls up to the first error. -/
def jRun : List DStep → DStep
  | [], s => (s, 0)
  | f :: fs, s => if (f s).2 = 0 then jRun fs (f s).1 else f s
/-- Octets from a sector on. -/
def jLayN : Nat → Nat → List UInt8 → DStep
  | 0, _, _, s => (s, 0)
  | m + 1, k, b, s => if (s.write k (b.take 64)).2 = 0 then jLayN m (k + 1) (b.drop 64) (s.write k (b.take 64)).1 else s.write k (b.take 64)
def jLay (k : Nat) (b : List UInt8) : DStep := jLayN (b.length / 64) k b

theorem jRun_append (l m : List DStep) (s : DSt) : jRun (l ++ m) s = if (jRun l s).2 = 0 then jRun m (jRun l s).1 else jRun l s := by
  induction l generalizing s with
  | nil => simp [jRun]
  | cons f l ih =>
    rw [List.cons_append, jRun, jRun]
    by_cases h : (f s).2 = 0
    · rw [if_pos h, if_pos h, ih]
    · rw [if_neg h, if_neg h, if_neg h]

def jA (n : Nat) : Nat := (n - 2) / 2
def jRoom (n : Int) : Int := if n < 1 ∨ 65536 < n then -1 else if n < 4 then -1 else (n - 2) / 2 * 64 - 12
def jArea (a : Nat) (t : List UInt8) : List UInt8 := beBytes 4 t.length ++ t ++ List.replicate (64 * a - (4 + t.length)) 0
def jMark (n x : Nat) : List UInt8 := sealed (beBytes 4 1297043028 ++ beBytes 4 n ++ sumOctets x ++ List.replicate 48 0)
def DSt.secs (s : DSt) : Nat := s.S.length / 64
def DSt.home (s : DSt) : Nat := 1 + jA s.secs
def jFits (s : DSt) (t : List UInt8) : Int := if jRoom s.secs < 0 then 2 else if jRoom s.secs < (t.length : Int) then 21 else 0
def jFormat (t : List UInt8) (s : DSt) : DSt × Int :=
  if jFits s t = 0 then jRun [jLay s.home (jArea (jA s.secs) t), DSt.sync, jLay 0 (jMark 0 0), DSt.sync] s else (s, jFits s t)
def jSteps (h : Nat) (b : List UInt8) : List DStep := [jLay 1 b, DSt.sync, jLay 0 (jMark 1 (crcSum b)), DSt.sync, jLay h b, DSt.sync, jLay 0 (jMark 0 (crcSum b)), DSt.sync]
def jPut (t : List UInt8) (s : DSt) : DSt × Int := if jFits s t = 0 then jRun (jSteps s.home (jArea (jA s.secs) t)) s else (s, jFits s t)
def jnOf (a : Nat) (I : List UInt8) : List UInt8 := (I.drop 64).take (64 * a)
def hmOf (a : Nat) (I : List UInt8) : List UInt8 := (I.drop (64 + 64 * a)).take (64 * a)
/-- A number of four octets, the lowest first. -/
def leVal4 (l : List UInt8) : Nat := (l.getD 0 0).toNat + 256 * (l.getD 1 0).toNat + 65536 * (l.getD 2 0).toNat + 16777216 * (l.getD 3 0).toNat
def saidOf (H : List UInt8) : Nat := leVal4 (H.drop 8)
def jRecover (s : DSt) : DSt × Int :=
  if jRoom s.secs < 0 then (s, 2) else
  if sector s.img 0 = jMark 1 (crcSum (jnOf (jA s.secs) s.img)) then jRun [DSt.sync, jLay s.home (jnOf (jA s.secs) s.img), DSt.sync, jLay 0 (jMark 0 (crcSum (jnOf (jA s.secs) s.img))), DSt.sync] s
  else if sector s.img 0 = jMark 0 (saidOf (sector s.img 0)) then (s, 0) else jRun [jLay 0 (jMark 0 0), DSt.sync] s
def jGet (s : DSt) : List UInt8 × Int :=
  if jRoom s.secs < 0 then ([], 2) else
  if (rNum (hmOf (jA s.secs) s.img, 0)).2.2 = 0 ∧ ((rNum (hmOf (jA s.secs) s.img, 0)).1 : Int) ≤ jRoom s.secs then (((hmOf (jA s.secs) s.img).drop 4).take (rNum (hmOf (jA s.secs) s.img, 0)).1, 0) else ([], 11)

/-! ### forms -/
theorem sumOctets_len (x : Nat) : (sumOctets x).length = 4 := by simp [sumOctets]
theorem jMark_len (n x : Nat) : (jMark n x).length = 64 := by
  unfold jMark sealed
  simp [beBytes_len, sumOctets_len]
theorem jArea_len {a : Nat} {t : List UInt8} (h : 4 + t.length ≤ 64 * a) : (jArea a t).length = 64 * a := by
  unfold jArea
  simp [beBytes_len]
  omega
theorem jMark_ne {x y : Nat} : jMark 0 x ≠ jMark 1 y := by
  intro h
  have := congrArg (fun l => l[7]?) h
  revert this
  unfold jMark sealed
  simp [beBytes]
theorem take_app {α : Type} {a b c : List α} {n : Nat} (h : a.length = n) : ((a ++ b) ++ c).take n = a := by
  rw [List.append_assoc]; exact List.take_left' h

/-! ### what lies outside of sectors stays -/

/-- Only octets from sector k on, m sectors, may differ. -/
def Out (k m : Nat) (S I : List UInt8) : Prop := I.length = S.length ∧ ∀ i, i < 64 * k ∨ 64 * (k + m) ≤ i → I[i]? = S[i]?
theorem Out.refl (k m : Nat) (S : List UInt8) : Out k m S S := ⟨rfl, fun _ _ => rfl⟩
theorem out_lay {k m : Nat} {S I b : List UInt8} {n : Nat} (h : Out k m S I) (hn : k ≤ n) (hb : 64 * n + b.length ≤ 64 * (k + m)) (hl : 64 * n + b.length ≤ I.length) : Out k m S (layB I n b) := by
  refine ⟨(layB_length hl).trans h.1, fun i hi => ?_⟩
  rw [← h.2 i hi, layB, splice_get? _ _ _ _ hl]
  by_cases h1 : i < 64 * n
  · rw [if_pos h1]
  · rw [if_neg h1, if_neg (by omega)]
theorem out_sector {k m n : Nat} {S I : List UInt8} (h : Out k m S I) (hn : n < k ∨ k + m ≤ n) : sector I n = sector S n := by
  apply List.ext_getElem?
  intro i
  rw [sector_get?, sector_get?]
  by_cases hi : i < 64
  · rw [if_pos hi, if_pos hi, h.2 _ (by omega)]
  · rw [if_neg hi, if_neg hi]
theorem out_part {k m o N : Nat} {S I : List UInt8} (h : Out k m S I) (hn : o + N ≤ 64 * k ∨ 64 * (k + m) ≤ o) : (I.drop o).take N = (S.drop o).take N := by
  apply List.ext_getElem?
  intro i
  rw [List.getElem?_take, List.getElem?_take]
  by_cases hi : i < N
  · rw [if_pos hi, if_pos hi, List.getElem?_drop, List.getElem?_drop, h.2 _ (by omega)]
  · rw [if_neg hi, if_neg hi]
theorem lay_part {S b : List UInt8} {n : Nat} (h : 64 * n + b.length ≤ S.length) : ((layB S n b).drop (64 * n)).take b.length = b := by
  apply List.ext_getElem?
  intro i
  rw [List.getElem?_take]
  by_cases hi : i < b.length
  · rw [if_pos hi, List.getElem?_drop, layB, splice_get? _ _ _ _ h, if_neg (by omega), if_pos (by omega)]
    congr 1
    omega
  · rw [if_neg hi, List.getElem?_eq_none (by omega)]

/-- The writes of octets from a sector on. -/
def chunks : Nat → Nat → List UInt8 → List (Nat × List UInt8)
  | 0, _, _ => []
  | m + 1, k, b => (k, b.take 64) :: chunks m (k + 1) (b.drop 64)
theorem chunks_mem {m k : Nat} {b : List UInt8} (hb : 64 * m ≤ b.length) : ∀ x ∈ chunks m k b, k ≤ x.1 ∧ x.1 < k + m ∧ x.2.length = 64 := by
  induction m generalizing k b with
  | zero => intro x hx; cases hx
  | succ m ih =>
    intro x hx
    rcases List.mem_cons.1 hx with rfl | hx
    · refine ⟨Nat.le_refl _, by simp, ?_⟩
      show (b.take 64).length = 64
      rw [List.length_take]; omega
    · have := ih (by rw [List.length_drop]; omega) x hx
      omega
theorem lay_two {S b : List UInt8} {k : Nat} (hb : 64 ≤ b.length) (h : 64 * k + b.length ≤ S.length) : layB (layB S k (b.take 64)) (k + 1) (b.drop 64) = layB S k b := by
  have h1 : (b.take 64).length = 64 := by rw [List.length_take]; omega
  have h2 : (b.drop 64).length = b.length - 64 := List.length_drop
  have h3 : (layB S k (b.take 64)).length = S.length := layB_length (by omega)
  apply List.ext_getElem?
  intro i
  unfold layB at h3 ⊢
  rw [splice_get? _ _ _ _ (by omega), splice_get? _ _ _ _ (by omega), splice_get? _ _ _ _ (by omega), h1, h2]
  by_cases c1 : i < 64 * k
  · rw [if_pos (by omega), if_pos c1, if_pos c1]
  · by_cases c2 : i < 64 * k + 64
    · rw [if_pos (by omega), if_neg c1, if_pos c2, if_neg c1, if_pos (by omega), List.getElem?_take, if_pos (by omega)]
    · rw [if_neg (by omega)]
      by_cases c3 : i < 64 * (k + 1) + (b.length - 64)
      · rw [if_pos c3, if_neg c1, if_pos (by omega), List.getElem?_drop]
        congr 1
        omega
      · rw [if_neg c3, if_neg c1, if_neg c2, if_neg c1, if_neg (by omega)]
theorem img_chunks {m k : Nat} {S b : List UInt8} (hb : b.length = 64 * m) (h : 64 * k + b.length ≤ S.length) : imgOf S (chunks m k b) = layB S k b := by
  induction m generalizing k b S with
  | zero =>
    obtain rfl : b = [] := List.eq_nil_of_length_eq_zero (by omega)
    simp [chunks, imgOf, layB, splice]
  | succ m ih =>
    have h1 : (b.take 64).length = 64 := by rw [List.length_take]; omega
    show imgOf (layB S k (b.take 64)) (chunks m (k + 1) (b.drop 64)) = _
    rw [ih (by rw [List.length_drop]; omega) (by rw [layB_length (by omega), List.length_drop]; omega), lay_two (by omega) h]

/-! ### a half done step -/

/-- Only writes to sectors from k on, m of them, wait; what is sure is S. -/
def Half (k m : Nat) (S : List UInt8) (s : DSt) : Prop := s.S = S ∧ ∀ x ∈ s.ws, k ≤ x.1 ∧ x.1 < k + m ∧ x.2.length = 64

theorem crash_half {k m : Nat} {S : List UInt8} {s : DSt} (h : Half k m S s) (hS : 64 * (k + m) ≤ S.length) (keep : List Bool) (torn octets : Int) : Out k m S (s.crash keep torn octets).S := by
  obtain ⟨rfl, h⟩ := h
  show Out k m s.S (crTo keep torn (clamp octets) s.S s.ws s.ws.length)
  have key : ∀ j, Out k m s.S (crTo keep torn (clamp octets) s.S s.ws j) := by
    intro j
    induction j with
    | zero => exact Out.refl _ _ _
    | succ j ih =>
      unfold crTo
      split
      · rename_i x hx
        obtain ⟨h1, h2, h3⟩ := h x (List.mem_of_getElem? hx)
        unfold crStep
        split
        · have h4 : (x.2.take (clamp octets)).length ≤ 64 := by rw [List.length_take]; omega
          exact out_lay ih h1 (by omega) (by have := ih.1; omega)
        · split
          · exact out_lay ih h1 (by omega) (by have := ih.1; omega)
          · exact ih
      · exact ih
  exact key _

/-- What a write of a sector does that is there. -/
theorem write_there {s : DSt} {k : Nat} {b : List UInt8} (hb : b.length = 64) (hk : 64 * (k + 1) ≤ s.S.length) : s.write k b = if s.on = true then (s.spend.put k b, 0) else (s, 20) := by
  have ht : s.there (k : Int) = true := by
    unfold DSt.there
    simp
    omega
  unfold DSt.write
  rw [if_pos ⟨ht, hb⟩]
  rfl
theorem spend_parts (s : DSt) : s.spend.S = s.S ∧ s.spend.ws = s.ws ∧ (s.left = -1 → s.spend.left = -1) := by
  unfold DSt.spend
  split
  · exact ⟨rfl, rfl, fun h => by omega⟩
  · exact ⟨rfl, rfl, id⟩

theorem layN_cases (m : Nat) : ∀ (k : Nat) (b : List UInt8) (s : DSt), b.length = 64 * m → 64 * (k + m) ≤ s.S.length →
    (jLayN m k b s).1.S = s.S ∧ (∃ j, j ≤ m ∧ (jLayN m k b s).1.ws = s.ws ++ (chunks m k b).take j ∧ ((jLayN m k b s).2 = 0 → j = m)) ∧ ((jLayN m k b s).2 = 0 ∨ (jLayN m k b s).2 = 20) ∧ (s.left = -1 → (jLayN m k b s).2 = 0 ∧ (jLayN m k b s).1.left = -1) := by
  induction m with
  | zero => intro k b s _ _; exact ⟨rfl, ⟨0, Nat.le_refl _, by simp [jLayN], fun _ => rfl⟩, .inl rfl, fun h => ⟨rfl, h⟩⟩
  | succ m ih =>
    intro k b s hb hk
    have h1 : (b.take 64).length = 64 := by rw [List.length_take]; omega
    have hw := write_there (s := s) (k := k) (b := b.take 64) h1 (by omega)
    obtain ⟨p1, p2, p3⟩ := spend_parts s
    by_cases hon : s.on = true
    · rw [if_pos hon] at hw
      have hj : jLayN (m + 1) k b s = jLayN m (k + 1) (b.drop 64) (s.spend.put k (b.take 64)) := by rw [jLayN, hw]; rfl
      rw [hj]
      obtain ⟨q1, ⟨j, hj1, hj2, hj3⟩, q3, q4⟩ := ih (k + 1) (b.drop 64) (s.spend.put k (b.take 64)) (by rw [List.length_drop]; omega) (by show _ ≤ s.spend.S.length; rw [p1]; omega)
      refine ⟨q1.trans p1, ⟨j + 1, by omega, ?_, fun h => by have := hj3 h; omega⟩, q3, fun h => q4 (p3 h)⟩
      rw [hj2]
      show (s.spend.ws ++ [(k, b.take 64)]) ++ _ = _
      rw [p2, List.append_assoc]
      rfl
    · rw [if_neg hon] at hw
      have hj : jLayN (m + 1) k b s = (s, 20) := by rw [jLayN, hw]; rfl
      rw [hj]
      exact ⟨rfl, ⟨0, Nat.zero_le _, by simp, fun h => by cases h⟩, .inr rfl, fun h => absurd (show s.on = true by unfold DSt.on; simp; omega) hon⟩

/-- Octets from a sector on, and Sync: they are there, or not all, and nothing else. -/
theorem both_cases {k m : Nat} {b : List UInt8} {s : DSt} (hw : s.ws = []) (hb : b.length = 64 * m) (hk : 64 * (k + m) ≤ s.S.length) :
    ((jRun [jLay k b, DSt.sync] s).2 = 0 ∧ (jRun [jLay k b, DSt.sync] s).1.S = layB s.S k b ∧ (jRun [jLay k b, DSt.sync] s).1.ws = [] ∧ (s.left = -1 → (jRun [jLay k b, DSt.sync] s).1.left = -1)) ∨
    ((jRun [jLay k b, DSt.sync] s).2 = 20 ∧ Half k m s.S (jRun [jLay k b, DSt.sync] s).1 ∧ s.left ≠ -1) := by
  obtain ⟨q1, ⟨j, hj1, hj2, hj3⟩, q3, q4⟩ := layN_cases m k b s hb hk
  have hd : jLay k b s = jLayN m k b s := by unfold jLay; rw [hb, Nat.mul_div_cancel_left _ (by omega)]
  rw [← hd] at q1 hj2 hj3 q3 q4
  rw [hw, List.nil_append] at hj2
  have hmem : ∀ x ∈ (jLay k b s).1.ws, k ≤ x.1 ∧ x.1 < k + m ∧ x.2.length = 64 := fun x hx => chunks_mem (by omega) x (List.mem_of_mem_take (hj2 ▸ hx))
  rcases q3 with h0 | h0
  · have hr : jRun [jLay k b, DSt.sync] s = jRun [DSt.sync] (jLay k b s).1 := by rw [jRun, if_pos h0]
    rw [hr]
    have hjm := hj3 h0
    rw [hjm] at hj2
    obtain ⟨t, ht⟩ : ∃ t, t = (jLay k b s).1 := ⟨_, rfl⟩
    rw [← ht] at q1 hj2 hmem q4 ⊢
    obtain ⟨p1, p2, p3⟩ := spend_parts t
    by_cases hon : t.on = true
    · have hs : t.sync = (⟨t.img, [], t.spend.left⟩, 0) := by unfold DSt.sync; rw [if_pos hon, if_pos hon]
      have hr2 : jRun [DSt.sync] t = (⟨t.img, [], t.spend.left⟩, 0) := by rw [jRun, hs]; rfl
      rw [hr2]
      refine .inl ⟨rfl, ?_, rfl, fun h => p3 (q4 h).2⟩
      show imgOf t.S t.ws = _
      rw [q1, hj2, List.take_of_length_le (by
        have : ∀ (m k : Nat) (b : List UInt8), (chunks m k b).length = m := by
          intro m
          induction m with
          | zero => intro _ _; rfl
          | succ m ih => intro k b; rw [chunks, List.length_cons, ih]
        rw [this]; exact Nat.le_refl _)]
      exact img_chunks hb (by omega)
    · have hs : t.sync = (t, 20) := by unfold DSt.sync; rw [if_neg hon, if_neg hon]
      have hr2 : jRun [DSt.sync] t = (t, 20) := by rw [jRun, hs]; rfl
      rw [hr2]
      exact .inr ⟨rfl, ⟨q1, hmem⟩, fun h => hon (by have := (q4 h).2; unfold DSt.on; simp; omega)⟩
  · have hr : jRun [jLay k b, DSt.sync] s = jLay k b s := by rw [jRun, if_neg (by rw [h0]; decide)]
    rw [hr]
    exact .inr ⟨h0, ⟨q1, hmem⟩, fun h => by have := (q4 h).1; omega⟩

/-! ### the law -/

/-- What may be on a disk, that has the old area or the new one. -/
def Inv (a : Nat) (Ao An I : List UInt8) : Prop :=
  (jnOf a I = An ∧ sector I 0 = jMark 1 (crcSum An)) ∨ ((hmOf a I = Ao ∨ hmOf a I = An) ∧ (jnOf a I = An ∨ ∃ x, x < 4294967296 ∧ sector I 0 = jMark 0 x))

section
variable {a : Nat} {S I b : List UInt8}
theorem jn_out {k m : Nat} (h : Out k m S I) (hk : k + m ≤ 1 ∨ 1 + a ≤ k) : jnOf a I = jnOf a S := out_part h (by omega)
theorem hm_out {k m : Nat} (h : Out k m S I) (hk : k + m ≤ 1 + a ∨ 1 + 2 * a ≤ k) : hmOf a I = hmOf a S := out_part h (by omega)
theorem hd_lay (hb : b.length = 64) (h : 64 ≤ S.length) : sector (layB S 0 b) 0 = b := sector_same hb (by omega)
theorem jn_lay (hb : b.length = 64 * a) (h : 64 * (1 + 2 * a) ≤ S.length) : jnOf a (layB S 1 b) = b := by
  have := lay_part (S := S) (b := b) (n := 1) (by omega)
  rw [hb] at this
  exact this
theorem hm_lay (hb : b.length = 64 * a) (h : 64 * (1 + 2 * a) ≤ S.length) : hmOf a (layB S (1 + a) b) = b := by
  have := lay_part (S := S) (b := b) (n := 1 + a) (by omega)
  rw [hb, show 64 * (1 + a) = 64 + 64 * a by omega] at this
  exact this
theorem lay_out (k m : Nat) (hb : b.length = 64 * m) (h : 64 * (k + m) ≤ S.length) : Out k m S (layB S k b) := out_lay (Out.refl k m S) (Nat.le_refl _) (by omega) (by omega)
end

theorem sumOctets_val {x : Nat} (h : x < 4294967296) : leVal4 (sumOctets x) = x := by
  unfold leVal4 sumOctets
  simp
  omega
theorem leVal4_app {x : List UInt8} (y : List UInt8) (h : x.length = 4) : leVal4 (x ++ y) = leVal4 x := by
  match x, h with
  | [a, b, c, d], _ => rfl
theorem saidOf_mark {n x : Nat} (h : x < 4294967296) : saidOf (jMark n x) = x := by
  unfold saidOf jMark sealed
  have e : ∀ S : List UInt8, (beBytes 4 1297043028 ++ beBytes 4 n ++ sumOctets x ++ List.replicate 48 0 ++ S).drop 8 = sumOctets x ++ (List.replicate 48 0 ++ S) := by
    intro S
    have : (beBytes 4 1297043028 ++ beBytes 4 n).length = 8 := by simp [beBytes_len]
    rw [List.append_assoc, List.append_assoc]
    exact List.drop_left' this
  rw [e, leVal4_app _ (sumOctets_len x), sumOctets_val h]

theorem phase {k m : Nat} {b : List UInt8} {s : DSt} (rest : List DStep) (hw : s.ws = []) (hb : b.length = 64 * m) (hk : 64 * (k + m) ≤ s.S.length) :
    (∃ s', jRun (jLay k b :: DSt.sync :: rest) s = jRun rest s' ∧ s'.S = layB s.S k b ∧ s'.ws = [] ∧ (s.left = -1 → s'.left = -1)) ∨
    ((jRun (jLay k b :: DSt.sync :: rest) s).2 = 20 ∧ Half k m s.S (jRun (jLay k b :: DSt.sync :: rest) s).1 ∧ s.left ≠ -1) := by
  have e : jRun (jLay k b :: DSt.sync :: rest) s = if (jRun [jLay k b, DSt.sync] s).2 = 0 then jRun rest (jRun [jLay k b, DSt.sync] s).1 else jRun [jLay k b, DSt.sync] s := jRun_append [jLay k b, DSt.sync] rest s
  rcases both_cases hw hb hk with ⟨h1, h2, h3, h4⟩ | ⟨h1, h2, h3⟩
  · rw [if_pos h1] at e
    exact .inl ⟨_, e, h2, h3, h4⟩
  · rw [if_neg (by rw [h1]; decide)] at e
    rw [e]
    exact .inr ⟨h1, h2, h3⟩

/-- A call that failed: whatever a crash leaves is sound. -/
def Failed (a N : Nat) (Ao An : List UInt8) (r : DSt × Int) : Prop :=
  r.2 = 20 ∧ ∃ k m T, T.length = N ∧ 64 * (k + m) ≤ N ∧ Half k m T r.1 ∧ ∀ I, Out k m T I → Inv a Ao An I
/-- A call that was OK: the area stands, the head has the mark 0. -/
def Stood (a N : Nat) (A : List UInt8) (r : DSt × Int) : Prop :=
  r.2 = 0 ∧ r.1.ws = [] ∧ r.1.S.length = N ∧ hmOf a r.1.S = A ∧ ∃ x, x < 4294967296 ∧ sector r.1.S 0 = jMark 0 x

theorem jRoom_of {M : Nat} (h4 : 4 ≤ M) (hM : M ≤ 65536) : jRoom M = ((64 * jA M - 12 : Nat) : Int) := by
  unfold jRoom jA
  rw [if_neg (by omega), if_neg (by omega)]
  omega

theorem steps_safe {a N : Nat} {s : DSt} {An Ao : List UInt8} (hS : s.S.length = N) (hN : 64 * (1 + 2 * a) ≤ N) (ha : 1 ≤ a) (hws : s.ws = []) (hAn : An.length = 64 * a) (hAo : hmOf a s.S = Ao) (hx : ∃ x, x < 4294967296 ∧ sector s.S 0 = jMark 0 x) :
    Stood a N An (jRun (jSteps (1 + a) An) s) ∨ (Failed a N Ao An (jRun (jSteps (1 + a) An) s) ∧ s.left ≠ -1) := by
  unfold jSteps
  have hc := crcSum_lt An
  have hc : crcSum An < 4294967296 := by simpa using hc
  have hm1 := jMark_len 1 (crcSum An)
  have hm0 := jMark_len 0 (crcSum An)
  rcases phase (m := a) [jLay 0 (jMark 1 (crcSum An)), DSt.sync, jLay (1 + a) An, DSt.sync, jLay 0 (jMark 0 (crcSum An)), DSt.sync] hws hAn (show 64 * (1 + a) ≤ s.S.length by omega) with ⟨s1, e1, S1, w1, l1⟩ | ⟨f1, f2, f3⟩
  rotate_left
  · refine .inr ⟨⟨f1, 1, a, s.S, hS, by omega, f2, fun I hI => .inr ⟨.inl ((hm_out hI (by omega)).trans hAo), .inr ?_⟩⟩, f3⟩
    obtain ⟨x, h1, h2⟩ := hx
    exact ⟨x, h1, (out_sector hI (by omega)).trans h2⟩
  have o1 : Out 1 a s.S s1.S := S1 ▸ lay_out 1 a hAn (by omega)
  have hS1 : s1.S.length = N := o1.1.trans hS
  have j1 : jnOf a s1.S = An := S1 ▸ jn_lay hAn (by omega)
  have h1 : hmOf a s1.S = Ao := (hm_out o1 (by omega)).trans hAo
  rw [e1]
  rcases phase (m := 1) [jLay (1 + a) An, DSt.sync, jLay 0 (jMark 0 (crcSum An)), DSt.sync] w1 hm1 (show 64 * (0 + 1) ≤ s1.S.length by omega) with ⟨s2, e2, S2, w2, l2⟩ | ⟨f1, f2, f3⟩
  rotate_left
  · refine .inr ⟨⟨f1, 0, 1, s1.S, hS1, by omega, f2, fun I hI => .inr ⟨.inl ((hm_out hI (by omega)).trans h1), .inl ((jn_out hI (by omega)).trans j1)⟩⟩, fun h => f3 (l1 h)⟩
  have o2 : Out 0 1 s1.S s2.S := S2 ▸ lay_out 0 1 hm1 (by omega)
  have hS2 : s2.S.length = N := o2.1.trans hS1
  have j2 : jnOf a s2.S = An := (jn_out o2 (by omega)).trans j1
  have d2 : sector s2.S 0 = jMark 1 (crcSum An) := S2 ▸ hd_lay hm1 (by omega)
  rw [e2]
  rcases phase (m := a) [jLay 0 (jMark 0 (crcSum An)), DSt.sync] w2 hAn (show 64 * (1 + a + a) ≤ s2.S.length by omega) with ⟨s3, e3, S3, w3, l3⟩ | ⟨f1, f2, f3⟩
  rotate_left
  · refine .inr ⟨⟨f1, 1 + a, a, s2.S, hS2, by omega, f2, fun I hI => .inl ⟨(jn_out hI (by omega)).trans j2, (out_sector hI (by omega)).trans d2⟩⟩, fun h => f3 (l2 (l1 h))⟩
  have o3 : Out (1 + a) a s2.S s3.S := S3 ▸ lay_out (1 + a) a hAn (by omega)
  have hS3 : s3.S.length = N := o3.1.trans hS2
  have j3 : jnOf a s3.S = An := (jn_out o3 (by omega)).trans j2
  have h3 : hmOf a s3.S = An := S3 ▸ hm_lay hAn (by omega)
  rw [e3]
  rcases phase (m := 1) [] w3 hm0 (show 64 * (0 + 1) ≤ s3.S.length by omega) with ⟨s4, e4, S4, w4, l4⟩ | ⟨f1, f2, f3⟩
  rotate_left
  · exact .inr ⟨⟨f1, 0, 1, s3.S, hS3, by omega, f2, fun I hI => .inr ⟨.inr ((hm_out hI (by omega)).trans h3), .inl ((jn_out hI (by omega)).trans j3)⟩⟩, fun h => f3 (l3 (l2 (l1 h)))⟩
  have o4 : Out 0 1 s3.S s4.S := S4 ▸ lay_out 0 1 hm0 (by omega)
  rw [e4]
  exact .inl ⟨rfl, w4, o4.1.trans hS3, (hm_out o4 (by omega)).trans h3, _, hc, S4 ▸ hd_lay hm0 (by omega)⟩

/-- What Recover does with a sound disk on which nothing waits. -/
theorem recover_safe {a N : Nat} {s : DSt} {An Ao : List UInt8} (hS : s.S.length = N) (hN : 64 * (1 + 2 * a) ≤ N) (ha : 1 ≤ a) (hj : a = jA s.secs) (hr : 0 ≤ jRoom s.secs) (hws : s.ws = []) (hAn : An.length = 64 * a) (hI : Inv a Ao An s.S) :
    (Stood a N Ao (jRecover s) ∨ Stood a N An (jRecover s)) ∨ (Failed a N Ao An (jRecover s) ∧ s.left ≠ -1) := by
  have himg : s.img = s.S := by unfold DSt.img; rw [hws]; rfl
  have hc := crcSum_lt An
  have hc : crcSum An < 4294967296 := by simpa using hc
  have hm0 := jMark_len 0 (crcSum An)
  unfold jRecover
  rw [if_neg (by omega), himg, ← hj, show s.home = 1 + a by unfold DSt.home; rw [← hj]]
  by_cases h1 : sector s.S 0 = jMark 1 (crcSum (jnOf a s.S))
  · rw [if_pos h1]
    have hjn : jnOf a s.S = An := by
      rcases hI with ⟨h, _⟩ | ⟨_, h | ⟨x, _, h⟩⟩
      · exact h
      · exact h
      · rw [h] at h1; exact absurd h1 jMark_ne
    rw [hjn] at h1 ⊢
    have hA : Inv a Ao An s.S := .inl ⟨hjn, h1⟩
    by_cases hon : s.on = true
    · have hs : s.sync = (⟨s.S, [], s.spend.left⟩, 0) := by unfold DSt.sync; rw [if_pos hon, if_pos hon, himg]
      obtain ⟨s0, hs0⟩ : ∃ s0 : DSt, s0 = ⟨s.S, [], s.spend.left⟩ := ⟨_, rfl⟩
      have hl0 : s.left = -1 → s0.left = -1 := fun h => by rw [hs0]; exact (spend_parts s).2.2 h
      have hS0 : s0.S = s.S := by rw [hs0]
      have hw0 : s0.ws = [] := by rw [hs0]
      have e : jRun [DSt.sync, jLay (1 + a) An, DSt.sync, jLay 0 (jMark 0 (crcSum An)), DSt.sync] s = jRun [jLay (1 + a) An, DSt.sync, jLay 0 (jMark 0 (crcSum An)), DSt.sync] s0 := by rw [jRun, hs, hs0]; rfl
      rw [e]
      rcases phase (m := a) [jLay 0 (jMark 0 (crcSum An)), DSt.sync] hw0 hAn (show 64 * (1 + a + a) ≤ s0.S.length by rw [hS0]; omega) with ⟨s3, e3, S3, w3, l3⟩ | ⟨f1, f2, f3⟩
      rotate_left
      · refine .inr ⟨⟨f1, 1 + a, a, s0.S, by rw [hS0, hS], by omega, f2, fun I hI => ?_⟩, fun h => f3 (hl0 h)⟩
        rw [hS0] at hI
        exact .inl ⟨(jn_out hI (by omega)).trans hjn, (out_sector hI (by omega)).trans h1⟩
      rw [hS0] at S3
      have o3 : Out (1 + a) a s.S s3.S := S3 ▸ lay_out (1 + a) a hAn (by omega)
      have hS3 : s3.S.length = N := o3.1.trans hS
      have j3 : jnOf a s3.S = An := (jn_out o3 (by omega)).trans hjn
      have h3 : hmOf a s3.S = An := S3 ▸ hm_lay hAn (by omega)
      rw [e3]
      rcases phase (m := 1) [] w3 hm0 (show 64 * (0 + 1) ≤ s3.S.length by omega) with ⟨s4, e4, S4, w4, l4⟩ | ⟨f1, f2, f3⟩
      rotate_left
      · exact .inr ⟨⟨f1, 0, 1, s3.S, hS3, by omega, f2, fun I hI => .inr ⟨.inr ((hm_out hI (by omega)).trans h3), .inl ((jn_out hI (by omega)).trans j3)⟩⟩, fun h => f3 (l3 (hl0 h))⟩
      have o4 : Out 0 1 s3.S s4.S := S4 ▸ lay_out 0 1 hm0 (by omega)
      rw [e4]
      exact .inl (.inr ⟨rfl, w4, o4.1.trans hS3, (hm_out o4 (by omega)).trans h3, _, hc, S4 ▸ hd_lay hm0 (by omega)⟩)
    · have hs : s.sync = (s, 20) := by unfold DSt.sync; rw [if_neg hon, if_neg hon]
      have e : jRun [DSt.sync, jLay (1 + a) An, DSt.sync, jLay 0 (jMark 0 (crcSum An)), DSt.sync] s = (s, 20) := by rw [jRun, hs]; rfl
      rw [e]
      refine .inr ⟨⟨rfl, 0, 0, s.S, hS, by omega, ⟨rfl, fun x hx => by rw [hws] at hx; cases hx⟩, fun I hO => ?_⟩, fun h => hon (by unfold DSt.on; simp; omega)⟩
      have : I = s.S := by
        apply List.ext_getElem?
        intro i
        exact hO.2 i (by omega)
      rw [this]
      exact hA
  · rw [if_neg h1]
    have hB : (hmOf a s.S = Ao ∨ hmOf a s.S = An) ∧ (jnOf a s.S = An ∨ ∃ x, x < 4294967296 ∧ sector s.S 0 = jMark 0 x) := by
      rcases hI with ⟨h, h2⟩ | h
      · rw [h] at h1; exact absurd h2 h1
      · exact h
    by_cases h2 : sector s.S 0 = jMark 0 (saidOf (sector s.S 0))
    · rw [if_pos h2]
      have hx : ∃ x, x < 4294967296 ∧ sector s.S 0 = jMark 0 x := by
        refine ⟨saidOf (sector s.S 0), ?_, h2⟩
        unfold saidOf leVal4
        have q : ∀ u : UInt8, u.toNat < 256 := fun u => u.toNat_lt
        have q0 := q ((List.drop 8 (sector s.S 0)).getD 0 0)
        have q1 := q ((List.drop 8 (sector s.S 0)).getD 1 0)
        have q2 := q ((List.drop 8 (sector s.S 0)).getD 2 0)
        have q3 := q ((List.drop 8 (sector s.S 0)).getD 3 0)
        omega
      rcases hB.1 with h | h
      · exact .inl (.inl ⟨rfl, hws, hS, h, hx⟩)
      · exact .inl (.inr ⟨rfl, hws, hS, h, hx⟩)
    · rw [if_neg h2]
      have hjn : jnOf a s.S = An := by
        rcases hB.2 with h | ⟨x, hx, h⟩
        · exact h
        · exact absurd (by rw [h, saidOf_mark hx]) h2
      rcases phase (m := 1) [] hws (jMark_len 0 0) (show 64 * (0 + 1) ≤ s.S.length by omega) with ⟨s4, e4, S4, w4, l4⟩ | ⟨f1, f2, f3⟩
      rotate_left
      · refine .inr ⟨⟨f1, 0, 1, s.S, hS, by omega, f2, fun I hI => .inr ⟨?_, .inl ((jn_out hI (by omega)).trans hjn)⟩⟩, f3⟩
        rw [hm_out hI (by omega)]
        exact hB.1
      have o4 : Out 0 1 s.S s4.S := S4 ▸ lay_out 0 1 (jMark_len 0 0) (by omega)
      rw [e4]
      have hx : ∃ x, x < 4294967296 ∧ sector s4.S 0 = jMark 0 x := ⟨0, by omega, S4 ▸ hd_lay (jMark_len 0 0) (by omega)⟩
      rcases hB.1 with h | h
      · exact .inl (.inl ⟨rfl, w4, o4.1.trans hS, (hm_out o4 (by omega)).trans h, hx⟩)
      · exact .inl (.inr ⟨rfl, w4, o4.1.trans hS, (hm_out o4 (by omega)).trans h, hx⟩)

/-- A disk that stands is sound, old and new being alike. -/
theorem Stood.inv {a N : Nat} {A : List UInt8} {r : DSt × Int} (h : Stood a N A r) : Inv a A A r.1.S := .inr ⟨.inl h.2.2.2.1, .inr h.2.2.2.2⟩
/-- A second Recover changes nothing. -/
theorem recover_again {s : DSt} (hr : 0 ≤ jRoom s.secs) (hws : s.ws = []) (hx : ∃ x, x < 4294967296 ∧ sector s.S 0 = jMark 0 x) : jRecover s = (s, 0) := by
  have himg : s.img = s.S := by unfold DSt.img; rw [hws]; rfl
  obtain ⟨x, hx, h⟩ := hx
  unfold jRecover
  rw [if_neg (by omega), himg, h, if_neg jMark_ne, saidOf_mark hx, if_pos rfl]
theorem get_area {a : Nat} {s : DSt} {t : List UInt8} (hj : a = jA s.secs) (h4 : 4 ≤ s.secs) (h6 : s.secs ≤ 65536) (hws : s.ws = []) (ht : t.length + 12 ≤ 64 * a) (hh : hmOf a s.S = jArea a t) : jGet s = (t, 0) := by
  have himg : s.img = s.S := by unfold DSt.img; rw [hws]; rfl
  have hroom := jRoom_of h4 h6
  rw [← hj] at hroom
  have ha : a ≤ 32767 := by rw [hj]; unfold jA; omega
  have hok : okNum (t.length : Int) = true := okNum_nat _ (by omega)
  have he : encNum (t.length : Int) = beBytes 4 t.length := by
    unfold encNum
    rw [if_neg (by omega)]
    rfl
  have hn : rNum (jArea a t, 0) = (t.length, (t ++ List.replicate (64 * a - (4 + t.length)) 0, 0)) := by
    have := rNum_enc t.length (t ++ List.replicate (64 * a - (4 + t.length)) 0) hok
    rw [he] at this
    unfold jArea
    rw [List.append_assoc]
    exact this
  unfold jGet
  rw [if_neg (by omega), himg, ← hj, hh, hn, hroom, if_pos ⟨rfl, by omega⟩]
  have hd : (jArea a t).drop 4 = t ++ List.replicate (64 * a - (4 + t.length)) 0 := by
    unfold jArea
    rw [List.append_assoc]
    exact List.drop_left' (beBytes_len 4 _)
  rw [hd]
  show (List.take t.length _, (0 : Int)) = _
  rw [List.take_left' rfl]
end Go.Proofs.Ytjmehamkpmimkaa

namespace Go.Proofs.Ytjmehamkpmimkaa
open Go.RowKit

/-- Behind a crash: nothing waits, the power is on, the old area or the new one is there. -/
structure Sound (a N : Nat) (X An : List UInt8) (s : DSt) : Prop where
  ws : s.ws = []
  len : s.S.length = N
  left : s.left = -1
  inv : Inv a X An s.S

theorem crash_none_waits {s : DSt} (h : s.ws = []) (keep : List Bool) (torn octets : Int) : s.crash keep torn octets = ⟨s.S, [], -1⟩ := by
  unfold DSt.crash
  rw [h]
  rfl
theorem Failed.crash {a N : Nat} {Ao An : List UInt8} {r : DSt × Int} (h : Failed a N Ao An r) (keep : List Bool) (torn octets : Int) : Sound a N Ao An (r.1.crash keep torn octets) := by
  obtain ⟨_, k, m, T, hT, hN, hh, hI⟩ := h
  have ho := crash_half hh (by omega) keep torn octets
  exact ⟨rfl, ho.1.trans hT, rfl, hI _ ho⟩
theorem Stood.crash {a N : Nat} {A X An : List UInt8} {r : DSt × Int} (h : Stood a N A r) (hA : A = X ∨ A = An) (keep : List Bool) (torn octets : Int) : Sound a N X An (r.1.crash keep torn octets) := by
  obtain ⟨_, hw, hl, hh, hx⟩ := h
  rw [crash_none_waits hw]
  refine ⟨rfl, hl, rfl, .inr ⟨?_, .inr hx⟩⟩
  rcases hA with rfl | rfl
  · exact .inl hh
  · exact .inr hh

/-- The power is set. -/
def DSt.power (s : DSt) (n : Int) : DSt := { s with left := max n (-1) }
theorem power_secs (s : DSt) (n : Int) : (s.power n).secs = s.secs := rfl

theorem put_eq {a : Nat} {s : DSt} {t : List UInt8} (hj : a = jA s.secs) (hf : jFits s t = 0) : jPut t s = jRun (jSteps (1 + a) (jArea a t)) s := by
  unfold jPut
  rw [if_pos hf, show s.home = 1 + a by unfold DSt.home; rw [← hj], ← hj]
theorem fits_ok {a : Nat} {s : DSt} {t : List UInt8} (hj : a = jA s.secs) (h4 : 4 ≤ s.secs) (h6 : s.secs ≤ 65536) (ht : t.length + 12 ≤ 64 * a) : jFits s t = 0 := by
  have hr := jRoom_of h4 h6
  rw [← hj] at hr
  unfold jFits
  rw [hr, if_neg (by omega), if_neg (by omega)]
theorem fits_full {a : Nat} {s : DSt} {t : List UInt8} (hj : a = jA s.secs) (h4 : 4 ≤ s.secs) (h6 : s.secs ≤ 65536) (ht : 64 * a < t.length + 12) : jFits s t = 21 := by
  have hr := jRoom_of h4 h6
  rw [← hj] at hr
  have ha : 1 ≤ a := by rw [hj]; unfold jA; omega
  unfold jFits
  rw [hr, if_neg (by omega), if_pos (by omega)]

section
variable {a N : Nat} {s : DSt}
/-- What is asked of a disk: its area has a sectors. -/
structure Sized (a N : Nat) (s : DSt) : Prop where
  len : s.S.length = N
  fit : 64 * (1 + 2 * a) ≤ N
  pos : 1 ≤ a
  area : a = jA s.secs
  four : 4 ≤ s.secs
  most : s.secs ≤ 65536
theorem Sized.to {s s' : DSt} (h : Sized a N s) (hl : s'.S.length = N) : Sized a N s' := by
  have e : s'.secs = s.secs := by unfold DSt.secs; rw [hl, h.len]
  exact ⟨hl, h.fit, h.pos, e ▸ h.area, e ▸ h.four, e ▸ h.most⟩
theorem Sized.room (h : Sized a N s) : 0 ≤ jRoom s.secs := by rw [jRoom_of h.four h.most]; omega

theorem format_stood {t : List UInt8} (hz : Sized a N s) (ht : t.length + 12 ≤ 64 * a) (hws : s.ws = []) (hl : s.left = -1) : Stood a N (jArea a t) (jFormat t s) ∧ (jFormat t s).1.left = -1 := by
  have hA : (jArea a t).length = 64 * a := jArea_len (by omega)
  have hf := hz.fit
  have hp := hz.pos
  have hn := hz.len
  unfold jFormat
  rw [if_pos (fits_ok hz.area hz.four hz.most ht), show s.home = 1 + a by unfold DSt.home; rw [← hz.area], ← hz.area]
  rcases phase (m := a) [jLay 0 (jMark 0 0), DSt.sync] hws hA (show 64 * (1 + a + a) ≤ s.S.length by omega) with ⟨s1, e1, S1, w1, l1⟩ | ⟨_, _, f3⟩
  rotate_left
  · exact absurd hl f3
  have o1 : Out (1 + a) a s.S s1.S := S1 ▸ lay_out (1 + a) a hA (by omega)
  have hS1 : s1.S.length = N := o1.1.trans hn
  have h1 : hmOf a s1.S = jArea a t := S1 ▸ hm_lay hA (by omega)
  rw [e1]
  rcases phase (m := 1) [] w1 (jMark_len 0 0) (show 64 * (0 + 1) ≤ s1.S.length by omega) with ⟨s4, e4, S4, w4, l4⟩ | ⟨_, _, f3⟩
  rotate_left
  · exact absurd (l1 hl) f3
  have o4 : Out 0 1 s1.S s4.S := S4 ▸ lay_out 0 1 (jMark_len 0 0) (by omega)
  rw [e4]
  exact ⟨⟨rfl, w4, o4.1.trans hS1, (hm_out o4 (by omega)).trans h1, 0, by omega, S4 ▸ hd_lay (jMark_len 0 0) (by omega)⟩, l4 (l1 hl)⟩

theorem put_safe {t Ao : List UInt8} (hz : Sized a N s) (ht : t.length + 12 ≤ 64 * a) (hws : s.ws = []) (hAo : hmOf a s.S = Ao) (hx : ∃ x, x < 4294967296 ∧ sector s.S 0 = jMark 0 x) :
    Stood a N (jArea a t) (jPut t s) ∨ (Failed a N Ao (jArea a t) (jPut t s) ∧ s.left ≠ -1) := by
  rw [put_eq hz.area (fits_ok hz.area hz.four hz.most ht)]
  exact steps_safe hz.len hz.fit hz.pos hws (jArea_len (by omega)) hAo hx

/-- A Put and the crash behind it: sound; the new text, if it was OK. -/
theorem put_crash {t Ao : List UInt8} (hz : Sized a N s) (ht : t.length + 12 ≤ 64 * a) (hws : s.ws = []) (hAo : hmOf a s.S = Ao) (hx : ∃ x, x < 4294967296 ∧ sector s.S 0 = jMark 0 x) (keep : List Bool) (torn octets : Int) :
    ∃ X, (X = Ao ∨ X = jArea a t) ∧ ((jPut t s).2 = 0 → X = jArea a t) ∧ Sound a N X (jArea a t) ((jPut t s).1.crash keep torn octets) := by
  rcases put_safe hz ht hws hAo hx with h | ⟨h, _⟩
  · exact ⟨_, .inr rfl, fun _ => rfl, h.crash (.inl rfl) _ _ _⟩
  · exact ⟨_, .inl rfl, fun h0 => (by rw [h.1] at h0; cases h0), h.crash _ _ _⟩

theorem recover_power {X An : List UInt8} (hz : Sized a N s) (hAn : An.length = 64 * a) (hs : Sound a N X An s) (p : Int) :
    (Stood a N X (jRecover (s.power p)) ∨ Stood a N An (jRecover (s.power p))) ∨ Failed a N X An (jRecover (s.power p)) := by
  have hz' : Sized a N (s.power p) := hz.to hs.len
  rcases recover_safe (s := s.power p) hs.len hz.fit hz.pos hz'.area hz'.room hs.ws hAn hs.inv with h | h
  · exact .inl h
  · exact .inr h.1
/-- A Recover, whatever the power, and the crash behind it. -/
theorem recover_crash {X An : List UInt8} (hz : Sized a N s) (hAn : An.length = 64 * a) (hs : Sound a N X An s) (p : Int) (keep : List Bool) (torn octets : Int) : Sound a N X An ((jRecover (s.power p)).1.crash keep torn octets) := by
  rcases recover_power hz hAn hs p with (h | h) | h
  · exact h.crash (.inl rfl) _ _ _
  · exact h.crash (.inr rfl) _ _ _
  · exact h.crash _ _ _
/-- A Recover behind a crash is OK. -/
theorem recover_ok {X An : List UInt8} (hz : Sized a N s) (hAn : An.length = 64 * a) (hs : Sound a N X An s) : Stood a N X (jRecover s) ∨ Stood a N An (jRecover s) := by
  rcases recover_safe hs.len hz.fit hz.pos hz.area hz.room hs.ws hAn hs.inv with h | h
  · exact h
  · exact absurd hs.left h.2
theorem Stood.get {t : List UInt8} {r : DSt × Int} (hz : Sized a N s) (ht : t.length + 12 ≤ 64 * a) (h : Stood a N (jArea a t) r) : jGet r.1 = (t, 0) := by
  have hz' := hz.to h.2.2.1
  exact get_area hz'.area hz'.four hz'.most h.2.1 ht h.2.2.2.1
end
end Go.Proofs.Ytjmehamkpmimkaa

namespace Go.Proofs.Ytjmehamkpmimkaa
open Go.RowKit

/-- The disk has come to s since w0; only its blocks, and new ones, have turned. -/
def DSince (B : Nat) (w0 : World) (g : Nat) (F0 : Nat → Prop) (s : DSt) (wr : World) : Prop := ∃ F, DskAt B wr g F s ∧ Mod F0 w0 wr ∧ ∀ k, F k → F0 k ∨ w0.heap.size ≤ k
/-- The same of the document's disk. -/
def RSince (B : Nat) (w0 : World) (g : Nat) (F0 : Nat → Prop) (s : DSt) (wr : World) : Prop := ∃ F, RdkAt B wr g F s ∧ Mod F0 w0 wr ∧ ∀ k, F k → F0 k ∨ w0.heap.size ≤ k

section
variable {B g : Nat} {w0 wr w1 : World} {F0 F F1 : Nat → Prop} {s s1 : DSt}
theorem DSince.refl (h : DskAt B w0 g F0 s) : DSince B w0 g F0 s w0 := ⟨F0, h, Mod.refl _ _, fun _ h => .inl h⟩
theorem RSince.refl (h : RdkAt B w0 g F0 s) : RSince B w0 g F0 s w0 := ⟨F0, h, Mod.refl _ _, fun _ h => .inl h⟩
theorem DSince.keep0 (h : DSince B w0 g F0 s wr) (hm : Mod Nil wr w1) : DSince B w0 g F0 s w1 := by
  obtain ⟨F, h1, h2, h3⟩ := h
  exact ⟨F, h1.keep0 hm, h2.trans hm.any, h3⟩
theorem RSince.keep0 (h : RSince B w0 g F0 s wr) (hm : Mod Nil wr w1) : RSince B w0 g F0 s w1 := by
  obtain ⟨F, h1, h2, h3⟩ := h
  exact ⟨F, h1.keep0 hm, h2.trans hm.any, h3⟩
theorem dsince_step (hm : Mod F0 w0 wr) (hF : ∀ k, F k → F0 k ∨ w0.heap.size ≤ k) (h1 : DskAt B w1 g F1 s1) (hm1 : Mod F wr w1) (hF1 : ∀ k, F1 k → F k ∨ wr.heap.size ≤ k) : DSince B w0 g F0 s1 w1 := by
  refine ⟨F1, h1, hm.trans' hm1 (fun _ _ h => h) (fun k hk hkF => (hF k hkF).elim id (fun h => by omega)), fun k hk => ?_⟩
  rcases hF1 k hk with h | h
  · exact hF k h
  · exact .inr (Nat.le_trans hm.size h)
theorem rsince_step (hm : Mod F0 w0 wr) (hF : ∀ k, F k → F0 k ∨ w0.heap.size ≤ k) (h1 : RdkAt B w1 g F1 s1) (hm1 : Mod F wr w1) (hF1 : ∀ k, F1 k → F k ∨ wr.heap.size ≤ k) : RSince B w0 g F0 s1 w1 := by
  refine ⟨F1, h1, hm.trans' hm1 (fun _ _ h => h) (fun k hk hkF => (hF k hkF).elim id (fun h => by omega)), fun k hk => ?_⟩
  rcases hF1 k hk with h | h
  · exact hF k h
  · exact .inr (Nat.le_trans hm.size h)
theorem DSince.post (h : DSince B w0 g F0 s wr) (e : Ending) : DskPost B w0 g F0 s e e wr := by
  obtain ⟨F, h1, h2, h3⟩ := h
  exact ⟨rfl, F, h1, h2, h3⟩
theorem RSince.post (h : RSince B w0 g F0 s wr) (e : Ending) : RdkPost B w0 g F0 s e e wr := by
  obtain ⟨F, h1, h2, h3⟩ := h
  exact ⟨rfl, F, h1, h2, h3⟩
theorem DSince.mod (h : DSince B w0 g F0 s wr) : Mod F0 w0 wr := by
  obtain ⟨F, h1, h2, h3⟩ := h
  exact h2
theorem RSince.mod (h : RSince B w0 g F0 s wr) : Mod F0 w0 wr := by
  obtain ⟨F, h1, h2, h3⟩ := h
  exact h2
end

/-! ### how a disk grows by a call -/
/-- Bounds that hold on: what waits, and the power. -/
def Grows (m : Nat) (s s' : DSt) : Prop := s'.S.length = s.S.length ∧ s'.ws.length ≤ s.ws.length + m ∧ s'.left ≤ s.left
theorem Grows.refl (s : DSt) : Grows 0 s s := ⟨rfl, Nat.le_refl _, Int.le_refl _⟩
theorem Grows.trans {m n : Nat} {a b c : DSt} (h : Grows m a b) (k : Grows n b c) : Grows (m + n) a c := ⟨k.1.trans h.1, by have := h.2.1; have := k.2.1; omega, Int.le_trans k.2.2 h.2.2⟩
theorem Grows.mono {m n : Nat} {a b : DSt} (h : Grows m a b) (hmn : m ≤ n) : Grows n a b := ⟨h.1, by have := h.2.1; omega, h.2.2⟩
theorem spend_left_ (s : DSt) : s.spend.left ≤ s.left := by
  unfold DSt.spend; split
  · show s.left - 1 ≤ s.left; omega
  · exact Int.le_refl _
theorem write_grows (s : DSt) (n : Int) (b : List UInt8) : Grows 1 s (s.write n b).1 := by
  obtain ⟨p1, p2, _⟩ := spend_parts s
  unfold DSt.write
  split
  · split
    · refine ⟨by show s.spend.S.length = _; rw [p1], ?_, spend_left_ s⟩
      show (s.spend.ws ++ [_]).length ≤ _
      rw [p2, List.length_append]
      exact Nat.le_refl _
    · exact (Grows.refl s).mono (Nat.zero_le _)
  · exact (Grows.refl s).mono (Nat.zero_le _)
/-- What waits lies on the disk. -/
def DOk (s : DSt) : Prop := ∀ x ∈ s.ws, 64 * x.1 + x.2.length ≤ s.S.length
theorem DOk.img {s : DSt} (h : DOk s) : s.img.length = s.S.length := imgOf_length h
/-- A call keeps a disk sound, and lets at most n more writes wait. -/
def StepG (n : Nat) (f : DStep) : Prop := ∀ s, DOk s → DOk (f s).1 ∧ Grows n s (f s).1
theorem StepG.mono {m n : Nat} {f : DStep} (h : StepG m f) (hmn : m ≤ n) : StepG n f := fun s hs => ⟨(h s hs).1, (h s hs).2.mono hmn⟩
theorem sync_g : StepG 0 DSt.sync := by
  intro s hs
  unfold DSt.sync
  split
  · exact ⟨fun x hx => (by cases hx), hs.img, Nat.zero_le _, spend_left_ s⟩
  · exact ⟨hs, Grows.refl s⟩
theorem write_g (n : Int) (b : List UInt8) : StepG 1 (fun s => s.write n b) := by
  intro s hs
  refine ⟨?_, write_grows s n b⟩
  show DOk (s.write n b).1
  obtain ⟨p1, p2, _⟩ := spend_parts s
  unfold DSt.write
  split
  · rename_i h
    split
    · intro x hx
      have hx : x ∈ s.spend.ws ++ [(n.toNat, b)] := hx
      show _ ≤ s.spend.S.length
      rw [p1]
      rcases List.mem_append.1 hx with hx | hx
      · rw [p2] at hx; exact hs x hx
      · obtain rfl := List.mem_singleton.1 hx
        have ht := h.1
        unfold DSt.there at ht
        simp at ht
        show 64 * n.toNat + b.length ≤ _
        rw [h.2]
        omega
    · exact hs
  · exact hs
theorem layN_g (m : Nat) : ∀ (k : Nat) (b : List UInt8), StepG m (jLayN m k b) := by
  induction m with
  | zero => intro k b s hs; exact ⟨hs, Grows.refl s⟩
  | succ m ih =>
    intro k b s hs
    obtain ⟨h1, h2⟩ := write_g k (b.take 64) s hs
    rw [jLayN]
    split
    · obtain ⟨h3, h4⟩ := ih (k + 1) (b.drop 64) _ h1
      exact ⟨h3, (h2.trans h4).mono (by omega)⟩
    · exact ⟨h1, h2.mono (by omega)⟩
theorem lay_g (k : Nat) (b : List UInt8) : StepG (b.length / 64) (jLay k b) := layN_g _ _ _
theorem run_nil_g : StepG 0 (jRun []) := fun s hs => ⟨hs, Grows.refl s⟩
theorem run_cons_g {m n : Nat} {f : DStep} {l : List DStep} (h : StepG m f) (k : StepG n (jRun l)) : StepG (m + n) (jRun (f :: l)) := by
  intro s hs
  obtain ⟨h1, h2⟩ := h s hs
  rw [jRun]
  split
  · obtain ⟨h3, h4⟩ := k _ h1
    exact ⟨h3, h2.trans h4⟩
  · exact ⟨h1, h2.mono (by omega)⟩
theorem both_g {n : Nat} {l : List DStep} (k : Nat) (b : List UInt8) (h : StepG n (jRun l)) : StepG (b.length / 64 + n) (jRun (jLay k b :: DSt.sync :: l)) := (run_cons_g (lay_g k b) (run_cons_g sync_g h)).mono (by omega)
theorem steps_g (h : Nat) (b : List UInt8) : StepG (2 * (b.length / 64) + 2) (jRun (jSteps h b)) := by
  have h0 := jMark_len 0 (crcSum b)
  have h1 := jMark_len 1 (crcSum b)
  refine (both_g 1 b (both_g 0 (jMark 1 (crcSum b)) (both_g h b (both_g 0 (jMark 0 (crcSum b)) run_nil_g)))).mono ?_
  rw [h0, h1]
  omega
end Go.Proofs.Ytjmehamkpmimkaa

namespace Go.Proofs.Ytjmehamkpmimkaa
open Go.RowKit

theorem areas_ex (x : Int) (w : World) :
    Calls Try.prog 43 #[.int .i64 x] w fun r w' => (∃ v, r = .returned (.int .i64 v)) ∧ w = w' := by
  go_enter Try.func43, Try.ntmps43
  go_wp2_with fail
  go_ret
  exact ⟨⟨_, rfl⟩, rfl⟩

theorem areas_any (M : Nat) (w : World) (h1 : 1 ≤ M) (h2 : M ≤ 65536) :
    Calls Try.prog 43 #[.int .i64 (M : Int)] w fun r w' => r = .returned (.int .i64 (jA M : Nat)) ∧ w = w' := by
  have ht : Int.tdiv ((M : Int) - 2) 2 = ((jA M : Nat) : Int) := by
    unfold jA
    rcases Nat.lt_or_ge M 2 with h | h
    · obtain rfl : M = 1 := by omega
      rfl
    · rw [Int.tdiv_eq_ediv_of_nonneg (by omega)]
      omega
  have hj : jA M ≤ 32767 := by unfold jA; omega
  go_enter Try.func43, Try.ntmps43
  go_wp2_with fail
  go_ret
  exact ⟨by first | rfl | exact ret_int (by unfold wrap64; omega), rfl⟩

theorem Room_any (x : Int) (w : World) :
    Calls Try.prog 10 #[.int .i64 x] w fun r w' => r = .returned (.int .i64 (jRoom x)) ∧ w = w' := by
  by_cases h1 : x < 1
  · have HR := Lib.hid (show jRoom x = -1 by unfold jRoom; rw [if_pos (.inl h1)])
    go_enter Try.func10, Try.ntmps10
    go_wp2_with fail
    refine (areas_ex x _).mono ?_
    rintro r w1 ⟨⟨v, rfl⟩, rfl⟩
    go_wp2_with fail
    go_ret
    exact ⟨ret_int HR.out.symm, rfl⟩
  by_cases h2 : 65536 < x
  · have HR := Lib.hid (show jRoom x = -1 by unfold jRoom; rw [if_pos (.inr h2)])
    go_enter Try.func10, Try.ntmps10
    go_wp2_with fail
    refine (areas_ex x _).mono ?_
    rintro r w1 ⟨⟨v, rfl⟩, rfl⟩
    go_wp2_with fail
    go_ret
    exact ⟨ret_int HR.out.symm, rfl⟩
  obtain ⟨M, rfl⟩ := Int.eq_ofNat_of_zero_le (show 0 ≤ x by omega)
  have hM1 : 1 ≤ M := by omega
  have hM2 : M ≤ 65536 := by omega
  have hj : jA M ≤ 32767 := by unfold jA; omega
  by_cases h4 : M < 4
  · have HR := Lib.hid (show jRoom M = -1 by unfold jRoom; rw [if_neg (by omega), if_pos (by omega)])
    have hj0 : jA M = 0 := by unfold jA; omega
    go_enter Try.func10, Try.ntmps10
    go_wp2_with fail
    refine (areas_any M _ hM1 hM2).mono ?_
    rintro r w1 ⟨rfl, rfl⟩
    rw [hj0]
    clear hj0
    go_wp2_with fail
    go_ret
    exact ⟨ret_int HR.out.symm, rfl⟩
  · have HR := Lib.hid (show jRoom M = (jA M : Nat) * 64 - 12 by unfold jRoom jA; rw [if_neg (by omega), if_neg (by omega)]; omega)
    have hj0 : 1 ≤ jA M := by unfold jA; omega
    obtain ⟨a, ha⟩ : ∃ a, a = jA M := ⟨_, rfl⟩
    rw [← ha] at HR hj hj0
    go_enter Try.func10, Try.ntmps10
    go_wp2_with fail
    refine (areas_any M _ hM1 hM2).mono ?_
    rintro r w1 ⟨rfl, rfl⟩
    rw [← ha]
    clear ha
    go_wp2_with fail
    go_ret
    exact ⟨ret_int HR.out.symm, rfl⟩

theorem room_nil (w : World) : Calls Try.prog 54 #[.pointer none] w fun r w' => r = .returned (.int .i64 (-1)) ∧ w = w' := by
  go_enter Try.func54, Try.ntmps54
  go_wp2_with fail
  go_ret
  exact ⟨rfl, rfl⟩
theorem room_any (B g : Nat) (F : Nat → Prop) (s : DSt) (w : World) (h : DskAt B w g F s) :
    Calls Try.prog 54 #[.pointer (some ⟨g, 0, none⟩)] w fun r w' => r = .returned (.int .i64 (jRoom s.secs)) ∧ w = w' := by
  have HC := Lib.hid (dskSize_any B g F s w h)
  clear h
  go_enter Try.func54, Try.ntmps54
  go_wp2_with fail
  refine HC.out.mono ?_
  rintro r w1 ⟨rfl, rfl⟩
  go_wp2_with fail
  refine (Room_any _ _).mono ?_
  rintro r w1 ⟨rfl, rfl⟩
  go_wp2_with fail
  go_ret
  exact ⟨rfl, rfl⟩

theorem DskAt.sized {B g : Nat} {F : Nat → Prop} {s : DSt} {w : World} (h : DskAt B w g F s) : 1 ≤ s.secs ∧ s.secs ≤ 65536 ∧ s.S.length = 64 * s.secs ∧ DOk s := by
  obtain ⟨vs, vw, wts, _, h⟩ := h
  have h1 := h.pos
  have h2 := h.big
  have h3 := h.mod
  unfold DSt.secs
  exact ⟨by omega, by omega, by omega, h.fits⟩

theorem homes_any (B g : Nat) (F : Nat → Prop) (s : DSt) (w : World) (h : DskAt B w g F s) :
    Calls Try.prog 53 #[.pointer (some ⟨g, 0, none⟩)] w fun r w' => r = .returned (.int .i64 (s.home : Nat)) ∧ w = w' := by
  have HC := Lib.hid (dskSize_any B g F s w h)
  obtain ⟨h1, h2, _, _⟩ := h.sized
  have HA := Lib.hid (areas_any s.secs w h1 h2)
  have hj : jA s.secs ≤ 32767 := by unfold jA; omega
  have HH := Lib.hid (show ((s.home : Nat) : Int) = 1 + (jA s.secs : Nat) by unfold DSt.home; omega)
  clear h
  go_enter Try.func53, Try.ntmps53
  go_wp2_with fail
  refine HC.out.mono ?_
  rintro r w1 ⟨rfl, rfl⟩
  go_wp2_with fail
  refine HA.out.mono ?_
  rintro r w1 ⟨rfl, rfl⟩
  go_wp2_with fail
  go_ret
  exact ⟨ret_int HH.out.symm, rfl⟩

theorem fits_nil (A : Option Addr) (n c : Nat) (w : World) : Calls Try.prog 46 #[.pointer none, .slice A n c] w fun r w' => r = .returned (.int .i64 2) ∧ w = w' := by
  go_enter Try.func46, Try.ntmps46
  go_wp2_with fail
  refine (room_nil _).mono ?_
  rintro r w1 ⟨rfl, rfl⟩
  go_wp2_with fail
  go_ret
  exact ⟨rfl, rfl⟩
theorem fits_any (B g : Nat) (F : Nat → Prop) (s : DSt) (A : Option Addr) (n c : Nat) (t : List UInt8) (w : World) (h : DskAt B w g F s) (ht : t.length = n) :
    Calls Try.prog 46 #[.pointer (some ⟨g, 0, none⟩), .slice A n c] w fun r w' => r = .returned (.int .i64 (jFits s t)) ∧ w = w' := by
  have HC := Lib.hid (room_any B g F s w h)
  clear h
  obtain ⟨R, hR⟩ : ∃ R, R = jRoom s.secs := ⟨_, rfl⟩
  rw [← hR] at HC
  by_cases h1 : R < 0
  · have HE := Lib.hid (show jFits s t = 2 by unfold jFits; rw [← hR, if_pos h1])
    clear hR
    go_enter Try.func46, Try.ntmps46
    go_wp2_with fail
    refine HC.out.mono ?_
    rintro r w1 ⟨rfl, rfl⟩
    go_wp2_with fail
    go_ret
    exact ⟨ret_int HE.out.symm, rfl⟩
  · by_cases h2 : R < (n : Int)
    · have HE := Lib.hid (show jFits s t = 21 by unfold jFits; rw [← hR, if_neg h1, ht, if_pos h2])
      clear hR ht
      go_enter Try.func46, Try.ntmps46
      go_wp2_with fail
      refine HC.out.mono ?_
      rintro r w1 ⟨rfl, rfl⟩
      go_wp2_with fail
      go_ret
      exact ⟨ret_int HE.out.symm, rfl⟩
    · have HE := Lib.hid (show jFits s t = 0 by unfold jFits; rw [← hR, if_neg h1, ht, if_neg h2])
      clear hR ht
      go_enter Try.func46, Try.ntmps46
      go_wp2_with fail
      refine HC.out.mono ?_
      rintro r w1 ⟨rfl, rfl⟩
      go_wp2_with fail
      go_ret
      exact ⟨ret_int HE.out.symm, rfl⟩

end Go.Proofs.Ytjmehamkpmimkaa

namespace Go.Proofs.Ytjmehamkpmimkaa
open Go.RowKit

theorem zeroCells_u8 (k : Nat) : Builtin.zeroCells (Value.int IntKind.u8 0).cells k = (List.replicate k (Value.int IntKind.u8 0)).toArray := by
  apply Array.toList_inj.1
  apply List.ext_getElem
  · simp [Builtin.zeroCells, Value.cells]
  · intro i h1 h2
    simp [Builtin.zeroCells, Value.cells, Nat.mod_one]

section
variable {P : Program} (w : World)
theorem run_append_room_zeros (t tn ty e : TypeId) (i : TypeInfo) (kq kn : IntKind) (ht : P.underlying t = some (.slice e)) (htn : P.underlying tn = some (.int kn)) (hi : P.info? e = some i) (hz : i.zero = some (.int .u8 0)) (hs1 : i.size = 1) (hby : i.bytes = 1)
    (g sLen sCap : Nat) (cur : Array Value) (hg : w.heap[g]? = some (.cells cur e (0, 0))) (k : Nat) (h0 : 0 < k) (hk : k ≤ 1000000000)
    (hroom : sLen + k ≤ sCap) (hfit : sLen + k ≤ cur.size) :
    (Builtin.append_ #[t, tn] ty #[.slice (some ⟨g, 0, none⟩) sLen sCap, .int kq k]).run P w =
      .ok (.slice (some ⟨g, 0, none⟩) (sLen + k) sCap) (w.setRow g (cur.toList.take sLen ++ List.replicate k (Value.int .u8 0) ++ cur.toList.drop (sLen + k)).toArray) := by
  have hst := run_storeCells_at P g sLen e (List.replicate k (Value.int .u8 0)) 0 cur w hg (by simpa using hfit) (by intro u hu; obtain rfl := List.eq_of_mem_replicate hu; rfl)
  have hw : IntKind.i64.wrap (k : Int) = k := by rw [IntKind.wrap_i64]; omega
  have hneg : ¬ ((k : Int) < 0) := by omega
  have hns : ¬ (k = 0) := by omega
  have h48i : ¬ (281474976710656 < (k : Int)) := by omega
  have hzc := zeroCells_u8 k
  simp only [Nat.add_zero, List.length_replicate] at hst
  simp [Builtin.append_, run_underlying ht, run_underlying htn, sizeOf, typeInfo, zeroValue, hi, hz, hs1, hby, asInt, asIntOf, hw, hneg, hns, h48i, hroom, hzc, Addr.add_lit, hst]

/-- append(b, make([]byte, k)...) onto octets of the call's own. -/
theorem run_append_zeros (base : Nat) (t tn ty e : TypeId) (i : TypeInfo) (kq kn : IntKind) (ht : P.underlying t = some (.slice e)) (htn : P.underlying tn = some (.int kn)) (hi : P.info? e = some i) (hz : i.zero = some (.int .u8 0)) (hs1 : i.size = 1) (hby : i.bytes = 1)
    (v : Value) (n : Nat) (xs : List Value) (hown : w.ownsRow base e 1 v n xs) (hn : 0 < n) (k : Nat) (h0 : 0 < k) (hk : k ≤ 1000000000) (hnk : n ≤ 1000000000) (hbase : base ≤ w.heap.size) :
    ∃ A' c' w', (Builtin.append_ #[t, tn] ty #[v, .int kq k]).run P w = .ok (.slice A' (n + k) c') w' ∧ w'.ownsRow base e 1 (.slice A' (n + k) c') (n + k) (xs ++ List.replicate k (.int .u8 0)) ∧ Mod (fun j => v.ownBlock = some j) w w' ∧
      (∀ j, (Value.slice A' (n + k) c').ownBlock = some j → v.ownBlock = some j ∨ w.heap.size ≤ j) := by
  have hxl : xs.length = n := by simpa using hown.1
  have hlen : (xs ++ List.replicate k (Value.int .u8 0)).length = (n + k) * 1 := by rw [List.length_append, hxl, List.length_replicate, Nat.mul_one]
  rcases hown.2 with ⟨rfl, rfl⟩ | ⟨g, cap, cur, rfl, hbg, hg, hnc, hcm, hcs, htake⟩
  · omega
  · have hcs' : cur.size = cap := by simpa using hcs
    by_cases hroom : n + k ≤ cap
    · have hr := run_append_room_zeros (P := P) w t tn ty e i kq kn ht htn hi hz hs1 hby g n cap cur hg k h0 hk hroom (by omega)
      refine ⟨_, _, _, hr, ⟨hlen, .inr ⟨g, cap, _, rfl, hbg, setRow_heap w g cur _ e _ hg, hroom, hcm, ?_, ?_⟩⟩, (Mod.refl (fun j => (Value.slice (some ⟨g, 0, none⟩) n cap).ownBlock = some j) w).setRow (g := g) rfl _, fun j hj => .inl hj⟩
      · simp only [List.size_toArray, List.length_append, List.length_take, List.length_drop, Array.length_toList, List.length_replicate]
        omega
      · have ht' : cur.toList.take n = xs := by simpa using htake
        rw [ht', ← hlen]
        exact List.take_left
    · have holds : ∀ j u, xs[j]? = some u → w.cell? ((⟨g, 0, none⟩ : Addr).add j) = some u := hown.cells (g := g) rfl
      have hfo := run_firstCells_some (P := P) w.drew i.size n ⟨g, 0, none⟩ n cap xs (by rw [hs1]; simpa using hxl) (by simpa using holds)
      have hr := Lib.run_append_grow_zeros (P := P) w t tn ty e i (.int .u8 0) kq kn ht htn hi hz (some ⟨g, 0, none⟩) n cap xs hfo k h0 (by omega) (by omega) (by omega) (by rw [hby]; omega) (by rw [hby]; exact growslice_fits (by omega) (by omega))
      have hge := grownCap_ge w (n + k) cap e
      have hcm2 : grownCap w (n + k) cap e ≤ maxLen := grownCap_le_maxLen w (n + k) cap e (by simp only [maxLen]; omega)
      refine ⟨_, _, _, hr, ⟨hlen, .inr ⟨w.heap.size, _, _, rfl, hbase, heap_alloc_new w.drew _, hge, hcm2, ?_, ?_⟩⟩, ((Mod.refl _ w).drew).alloc _, fun j hj => .inr ?_⟩
      · simp only [Array.size_append, List.size_toArray, zeroCells_u8, hxl, List.length_replicate]
        omega
      · simp only [Array.toList_append, List.append_assoc, zeroCells_u8]
        rw [← List.append_assoc, ← hlen]
        exact List.take_left
      · have : w.heap.size = j := by simpa [Value.ownBlock] using hj
        omega

theorem wpList_append_zeros {w : World} {ops : Array Oper} {rest : List Oper} {o : Oper} {a : Act} {Q : Exit → Act → World → Prop} (hgd : o.guard = none) (sl x : Operand) (t tn : TypeId)
    (ho : o.op = .call { callee := .builtin .append, args := #[sl, x], argTypes := #[t, tn] })
    (base : Nat) (e : TypeId) (i : TypeInfo) (kq kn : IntKind) (ht : P.underlying t = some (.slice e)) (htn : P.underlying tn = some (.int kn)) (hi : P.info? e = some i) (hz : i.zero = some (.int .u8 0)) (hs1 : i.size = 1) (hby : i.bytes = 1)
    (v : Value) (n : Nat) (xs : List Value) (hs : a.eval sl = v) (hown : w.ownsRow base e 1 v n xs) (hn : 0 < n) (k : Nat) (hx : a.eval x = .int kq k) (h0 : 0 < k) (hk : k ≤ 1000000000) (hnk : n ≤ 1000000000) (hbase : base ≤ w.heap.size)
    (h : ∀ A' c' w', w'.ownsRow base e 1 (.slice A' (n + k) c') (n + k) (xs ++ List.replicate k (.int .u8 0)) → Mod (fun j => v.ownBlock = some j) w w' → (∀ j, (Value.slice A' (n + k) c').ownBlock = some j → v.ownBlock = some j ∨ w.heap.size ≤ j) → wpList P ops Q rest (a.put o.dst (.slice A' (n + k) c')) w') : wpList P ops Q (o :: rest) a w := by
  refine wpList_plain hgd fun K hK => ?_
  obtain ⟨A', c', w', hr, h2, h3, h4⟩ := run_append_zeros (P := P) w base t tn o.type e i kq kn ht htn hi hz hs1 hby v n xs hown hn k h0 hk hnk hbase
  unfold Oper.wp execOp
  simp only [ho, resolve, invoke, builtin, Sem.run_bind, Sem.run_pure, Result.andThen_ok, List.map_toArray, List.map_cons, List.map_nil, hs, hx, hr]
  exact hK _ _ (h A' c' w' h2 h3 h4)

/-- copy(d, s), one cell an element, both rows that are there. -/
theorem wpList_copy1 {w : World} {ops : Array Oper} {rest : List Oper} {o : Oper} {a : Act} {Q : Exit → Act → World → Prop} (hgd : o.guard = none) (d s : Operand) (dT sT : TypeId)
    (ho : o.op = .call { callee := .builtin .copy, args := #[d, s], argTypes := #[dT, sT] }) (elem : TypeId) (hu : P.underlying dT = some (.slice elem)) (hsz : (P.info? elem).map (·.size) = some 1)
    (dLen dCap : Nat) (ad : Addr) (sLen sCap : Nat) (g off : Nat) (hd : a.eval d = .slice (some ⟨g, off, none⟩) dLen dCap) (hs : a.eval s = .slice (some ad) sLen sCap)
    (cur : List Value) (t : TypeId) (hg : w.heap[g]? = some (.cells cur.toArray t (0, 0))) (cs : List Value) (hn : cs.length = Nat.min sLen dLen) (hpos : 0 < cs.length)
    (hsrc : ∀ j v, cs[j]? = some v → w.cell? (ad.add j) = some v) (hfit : off + cs.length ≤ cur.length) (h1 : ∀ v ∈ cs, v.oneCell' = true)
    (h : ∀ w', RowKit.Hid (w'.heap[g]? = some (.cells (splice cur off cs).toArray t (0, 0))) → RowKit.Hid (Mod (fun k => k = g) w w') → wpList P ops Q rest (a.put o.dst (goInt cs.length)) w') : wpList P ops Q (o :: rest) a w := by
  refine wpList_plain hgd fun K hK => ?_
  have hrun := run_copy_row (P := P) w dT sT o.type elem g off dLen dCap ad sLen sCap cur.toArray t cs hu hsz hg hn hsrc (by simpa using hfit) h1
  unfold Oper.wp execOp
  simp only [ho, resolve, invoke, builtin, Sem.run_bind, Sem.run_pure, Result.andThen_ok, List.map_toArray, List.map_cons, List.map_nil, hd, hs, hrun]
  exact hK _ _ (h _ (show _ = _ by simpa [splice] using setRow_heap w g _ _ t _ hg) (Lib.hid ((Mod.refl (fun k => k = g) w).setRow (g := g) rfl _)))
end

end Go.Proofs.Ytjmehamkpmimkaa

namespace Go.Proofs.Ytjmehamkpmimkaa
open Go.RowKit

theorem wr_new2 (w : World) : WrAt w.heap.size (w.alloc (.cells #[.slice none 0 0, .int .i64 0] 131)) w.heap.size (.slice none 0 0) ([], 0) :=
  ⟨Blk.new _ _ _, World.ownsRow_nil _ _ _ _, Nat.le_refl _⟩
theorem wNum_nat (n : Nat) (l : List UInt8) (h : n ≤ 2147483647) : wNum (n : Int) (l, 0) = (l ++ beBytes 4 n, 0) := by
  unfold wNum wPut
  rw [if_neg (by omega)]
  rfl
theorem zeros_bv (k : Nat) : List.replicate k (Value.int .u8 0) = (List.replicate k (0 : UInt8)).map bv := by simp [bv]
theorem splice_zero (x : List UInt8) (N : Nat) : splice (List.replicate N (0 : UInt8)) 0 x = x ++ List.replicate (N - x.length) 0 := by
  unfold splice
  simp

set_option maxHeartbeats 1600000 in
set_option maxRecDepth 100000 in
theorem area_any (B g : Nat) (F : Nat → Prop) (s : DSt) (A : Option Addr) (n c : Nat) (t : List UInt8) (w : World) (h : DskAt B w g F s) (ht : t.length = n) (hfit : n + 12 ≤ 64 * jA s.secs) (hr : Rd All w A (t.map bv)) :
    Calls Try.prog 47 #[.pointer (some ⟨g, 0, none⟩), .slice A n c] w fun r w' => ∃ v, r = .returned v ∧ w'.ownsRow w.heap.size 5 1 v (64 * jA s.secs) ((jArea (jA s.secs) t).map bv) ∧ Mod Nil w w' := by
  obtain ⟨i0, hi, hz0, hz1, hz2⟩ := info_parts u8_info
  obtain ⟨h1, h2, h3, _⟩ := h.sized
  have hj : jA s.secs ≤ 32767 := by unfold jA; omega
  have HD := Lib.hid h
  have HR := Lib.hid hr
  have HT := Lib.hid ht
  have HW := Lib.hid (wr_new2 w)
  obtain ⟨M, hM⟩ : ∃ M, M = s.secs := ⟨_, rfl⟩
  obtain ⟨a, ha⟩ : ∃ a, a = jA s.secs := ⟨_, rfl⟩
  rw [← ha] at hfit hj ⊢
  have HA := Lib.hid (fun w' : World => areas_any s.secs w' h1 h2)
  rw [← ha] at HA
  have HMM := Lib.hid hM
  have HC := Lib.hid (wnum_any w.heap.size w.heap.size _ ([], 0) n _ HW.out (by simp) (by simp))
  rw [wNum_nat n [] (by omega), List.nil_append] at HC
  have hbl := beBytes_len 4 n
  clear h hr ht ha hM h1 h2 h3
  go_enter Try.func47, Try.ntmps47
  go_wp2_with fail
  refine HC.out.mono ?_
  rintro r w1 ⟨rfl, v1, hw1, hm1, _⟩
  have hM01 : Mod Nil w w1 := ((Mod.refl Nil w).alloc _).trans' hm1 (fun _ _ h => h) (fun i hi hf => by have := WriterAt.low HW.out i hf; omega)
  have HW1 := Lib.hid hw1
  have HM1 := Lib.hid hM01
  clear hw1 hm1 hM01
  go_wp2_with fail
  refine (dskSize_any B g F s _ (HD.out.keep0 HM1.out)).mono ?_
  rintro r w2 ⟨rfl, rfl⟩
  go_wp2_with fail
  refine (HA.out _).mono ?_
  rintro r w2 ⟨rfl, rfl⟩
  go_wp2_with (at_make; refine wpList_make_full _ rfl (.tmp 13) (.tmp 13) 36 rfl w.heap.size 5 i0 (.int .u8 0) 1 Try.underlying36 hi hz0 hz1 .i64 .i64 ((a : Int) * 64) ((a : Int) * 64) (64 * a) rfl rfl (by omega) (by omega) (by rw [hz2]; omega) (by simp only [maxLen]; omega) HM1.out.size ?_; intro w2 ho2 hg2; rw [madeCells_u8] at ho2; have HO2 := Lib.hid ho2; have HM2 := Lib.hid ((Mod.of_grown hg2).mono (G := Nil) (fun _ _ h => by cases h)); clear ho2 hg2)
  refine (wbytes_any w.heap.size w.heap.size v1 (beBytes 4 n, 0) _ (WrAt.keep HW1.out HM2.out (fun _ _ => id)) (by simp [beBytes_len])).mono ?_
  rintro r w3 ⟨v3, rfl, hown3, hm3⟩
  obtain ⟨A3, c3, rfl, _, _⟩ := own_slice hown3
  have HO3 := Lib.hid hown3
  have HM3 := Lib.hid (HM2.out.trans hm3)
  have HZ3 := Lib.hid hm3.size
  have HM23 := Lib.hid hm3
  rw [hbl] at HO3
  rw [hbl]
  clear hown3 hm3
  go_wp2_with (first
    | (at_builtin
       refine wpList_append1' _ rfl (.tmp 16) (.tmp 17) 36 rfl w2.heap.size 5 i0 (.int .u8 0) 1 Try.underlying36 hi hz0 hz1 hz2 rfl (.slice A3 4 c3) 4 ((beBytes 4 n).map bv) rfl HO3.out All A n c (t.map bv) rfl (by rw [List.length_map, HT.out]) (HR.out.keep0 (HM1.out.trans HM3.out)) (bv_one t) (by omega) (by simp only [maxLen]; omega) HZ3.out ?_
       intro A4 c4 w4 hown4 hmod4 hat4
       have hx : (beBytes 4 n).map bv ++ t.map bv = (beBytes 4 n ++ t).map bv := by rw [List.map_append]
       rw [hx] at hown4
       obtain ⟨g4, c5, hv, hb4, hlt4⟩ := hown4.form (by omega)
       injection hv with hA4 _ _
       subst hA4
       have HOW4 := Lib.hid hown4
       have HM24 := Lib.hid (show Mod Nil w2 w4 from HM23.out.trans' hmod4 (fun _ _ h => h) (fun j hj hjv => by have := (HO3.out.lt j hjv).1; omega))
       have HO24 := Lib.hid (own_keep HO2.out HM24.out (fun _ _ => id))
       obtain ⟨cur, hcur, _, _, hcs, _⟩ := own_heap HO24.out
       have HCUR := Lib.hid hcur
       have HCS := Lib.hid hcs
       have HLEN := Lib.hid (show (beBytes 4 n ++ t).length = 4 + n by rw [List.length_append, hbl, HT.out])
       clear hown4 hmod4 hat4 hx hcur hcs)
    | (refine wpList_copy1 rfl (.tmp 15) (.tmp 18) 36 36 rfl 5 Try.underlying36 (by rw [hi]; simp [hz1]) (64 * a) (64 * a) ⟨g4, 0, none⟩ (4 + n) c4 w1.heap.size 0 rfl rfl cur.toList 5 (by simpa using HCUR.out) ((beBytes 4 n ++ t).map bv) (by rw [List.length_map, HLEN.out]; exact (Nat.min_eq_left (by omega)).symm) (by rw [List.length_map, HLEN.out]; omega) (HOW4.out.cells (g := g4) rfl) (by rw [List.length_map, HLEN.out, Array.length_toList]; have := HCS.out; omega) (bv_one _) ?_
       intro w5 hg5 hm5))
  go_ret
  have hfin := own_splice (cs := (beBytes 4 n ++ t).map bv) (off := 0) HO24.out HCUR.out hg5.out (by rw [List.length_map, HLEN.out]; omega)
  rw [← splice_map, splice_zero, HLEN.out, show beBytes 4 n ++ t ++ List.replicate (64 * a - (4 + n)) 0 = jArea a t by unfold jArea; rw [HT.out]] at hfin
  refine ⟨_, rfl, hfin, HM1.out.trans' ((HM2.out.trans HM24.out).any (F := fun k => k = w1.heap.size) |>.trans hm5.out) (fun _ _ h => h) (fun k hk hkg => by have := HM1.out.size; omega)⟩

set_option maxHeartbeats 1600000 in
set_option maxRecDepth 100000 in
theorem mark_any (n x : Nat) (w : World) (hn : n ≤ 1) (hx : x < 4294967296) :
    Calls Try.prog 52 #[.int .i64 (n : Int), .int .u32 (x : Int)] w fun r w' => ∃ v, r = .returned v ∧ w'.ownsRow w.heap.size 5 1 v 64 ((jMark n x).map bv) ∧ Mod Nil w w' := by
  obtain ⟨i0, hi, hz0, hz1, hz2⟩ := info_parts u8_info
  have HW := Lib.hid (wr_new2 w)
  have HX := Lib.hid hx
  have HC := Lib.hid (wnum_any w.heap.size w.heap.size _ ([], 0) ((1297043028 : Nat) : Int) _ HW.out (by simp) (by simp))
  rw [wNum_nat 1297043028 [] (by omega), List.nil_append] at HC
  go_enter Try.func52, Try.ntmps52
  go_wp2_with fail
  refine HC.out.mono ?_
  rintro r w1 ⟨rfl, v1, hw1, hm1, _⟩
  have hM01 : Mod Nil w w1 := ((Mod.refl Nil w).alloc _).trans' hm1 (fun _ _ h => h) (fun i hi hf => by have := WriterAt.low HW.out i hf; omega)
  have HW1 := Lib.hid hw1
  have HM1 := Lib.hid hM01
  clear hw1 hm1 hM01
  have HC2 := Lib.hid (wnum_any w.heap.size w.heap.size v1 (beBytes 4 1297043028, 0) (n : Int) _ HW1.out HM1.out.size (by simp [beBytes_len]))
  rw [wNum_nat n _ (by omega)] at HC2
  go_wp2_with fail
  refine HC2.out.mono ?_
  rintro r w2 ⟨rfl, v2, hw2, hm2, _⟩
  have HM2 := Lib.hid (show Mod Nil w w2 from HM1.out.trans' hm2 (fun _ _ h => h) (fun i hi hf => by have := WriterAt.low HW1.out i hf; omega))
  have HW2 := Lib.hid hw2
  clear hw2 hm2
  go_wp2_with fail
  refine (wbytes_any w.heap.size w.heap.size v2 (beBytes 4 1297043028 ++ beBytes 4 n, 0) _ HW2.out (by simp [beBytes_len])).mono ?_
  rintro r w3 ⟨v3, rfl, hown3, hm3⟩
  obtain ⟨A3, c3, rfl, _, _⟩ := own_slice hown3
  have h8 : (beBytes 4 1297043028 ++ beBytes 4 n).length = 8 := by simp [beBytes_len]
  have HO3 := Lib.hid hown3
  have HM3 := Lib.hid (HM2.out.trans hm3)
  have HZ3 := Lib.hid hm3.size
  rw [h8] at HO3
  rw [h8]
  have hrd := Rd.cells w3 #[Value.int IntKind.u8 ((x : Int) % 256), Value.int IntKind.u8 ((x : Int) / 256 % 256), Value.int IntKind.u8 ((x : Int) / 65536 % 256), Value.int IntKind.u8 ((x : Int) / 16777216)] 5 (0, 0) rfl
  rw [← sumOctets_cells x hx] at hrd
  have HRD := Lib.hid hrd
  clear hown3 hm3 h8 hrd
  go_wp2_with (first
    | (at_builtin
       refine wpList_append1' _ rfl (.tmp 10) (.tmp 22) 36 rfl w2.heap.size 5 i0 (.int .u8 0) 1 Try.underlying36 hi hz0 hz1 hz2 rfl (.slice A3 8 c3) 8 ((beBytes 4 1297043028 ++ beBytes 4 n).map bv) rfl (own_keep HO3.out ((Mod.refl Nil w3).alloc _) (fun _ _ => id)) All (some ⟨w3.heap.size, 0, none⟩) 4 4 ((sumOctets x).map bv) rfl (by simp [sumOctets]) HRD.out (bv_one _) (by omega) (by simp only [maxLen]; omega) (by have := HZ3.out; simp; omega) ?_
       intro A4 c4 w4 hown4 hmod4 hat4
       rw [← List.map_append] at hown4
       have HO4 := Lib.hid hown4
       have HM4 := Lib.hid (show Mod Nil w w4 from (HM3.out.alloc _).trans' hmod4 (fun _ _ h => h) (fun j hj hjv => by have := (HO3.out.lt j hjv).1; have := HM2.out.size; omega))
       have HZ4 := Lib.hid hmod4.size
       have HA4 := Lib.hid (show ∀ j, (Value.slice A4 12 c4).ownBlock = some j → w.heap.size ≤ j from fun j hj => by have := (hown4.lt j hj).1; have := HM2.out.size; omega)
       clear hown4 hmod4 hat4)
    | (at_builtin
       refine wpList_append_zeros rfl (.tmp 24) (.const (.int .i64 48)) 36 3 rfl w2.heap.size 5 i0 .i64 .i64 Try.underlying36 Try.underlying3 hi hz0 hz1 hz2 (.slice A4 12 c4) 12 ((beBytes 4 1297043028 ++ beBytes 4 n ++ sumOctets x).map bv) rfl HO4.out (by omega) 48 rfl (by omega) (by omega) (by omega) (by have := HZ4.out; have := HZ3.out; simp at *; omega) ?_
       intro A5 c5 w5 hown5 hmod5 hat5
       rw [zeros_bv, ← List.map_append] at hown5
       have HO5 := Lib.hid hown5
       have HM5 := Lib.hid (show Mod Nil w w5 from HM4.out.trans' hmod5 (fun _ _ h => h) (fun j hj hjv => by have := HA4.out j hjv; omega))
       clear hown5 hmod5 hat5))
  refine (seal_any _ A5 60 c5 _ _ (by simp [beBytes_len, sumOctets_len]) (by omega) (Rd.of_own HO5.out)).mono ?_
  rintro r w6 ⟨v6, rfl, ho6, hm6⟩
  have HO6 := Lib.hid ho6
  have HM6 := Lib.hid (HM5.out.trans hm6)
  have HZ6 := Lib.hid HM5.out.size
  clear ho6 hm6
  go_wp2_with fail
  go_ret
  exact ⟨_, rfl, own_base HO6.out HZ6.out, HM6.out⟩

end Go.Proofs.Ytjmehamkpmimkaa
