/- The document's world: PopTo, Words. -/
import Derived.Test.YtpjpmlhnhcmacaaFrdU
namespace Go.Proofs.Ytpjpmlhnhcmacaa
open Go.RowKit

theorem own_popk {w : World} {B size : Nat} {e : TypeId} {A : Option Addr} {n c k : Nat} {xs : List Value} (h : w.ownsRow B e size (.slice A n c) n xs) (hk : k ≤ n) : w.ownsRow B e size (.slice A k c) k (xs.take (k * size)) := by
  have hl := h.1
  have hmul : k * size ≤ n * size := Nat.mul_le_mul_right _ hk
  rcases h.2 with ⟨hv, hn⟩ | ⟨g, cap, cur, hv, hb, hg, h1, h2, h3, h4⟩
  · injection hv with hA hn0 hc
    subst hA hc
    obtain rfl : k = 0 := by omega
    exact ⟨by simp, .inl ⟨rfl, by simp⟩⟩
  · injection hv with hA hn hc
    subst hA hc
    refine ⟨by rw [List.length_take]; omega, .inr ⟨g, _, cur, rfl, hb, hg, by omega, h2, h3, ?_⟩⟩
    rw [← h4, List.take_take]
    congr 1
    omega
theorem flat_take (acs : List RAct) (k : Nat) : (acs.take k).flatMap actCells = (acs.flatMap actCells).take (k * 5) := by
  induction acs generalizing k with
  | nil => simp
  | cons x l ih =>
    cases k with
    | zero => simp
    | succ k =>
      have hl : (actCells x).length = 5 := rfl
      rw [List.take_succ_cons, List.flatMap_cons, List.flatMap_cons, ih, List.take_append, hl, show (k + 1) * 5 - 5 = k * 5 by omega, List.take_of_length_le (l := actCells x) (by rw [hl]; omega)]

def RCutPost (B g : Nat) (S : Nat → Prop) (vs vl : Value) (rb : List Nat) (ss : List Scp) (acs : List RAct) (last : Int) (w : World) (n : Nat) (b : Bool) (r : Ending) (w' : World) : Prop :=
  r = .returned (.bool b) ∧ ∃ vl', RWd B S w' g vs vl' rb ss (acs.take n) last ∧ Mod (fun k => k = g) w w' ∧ ∀ k, vl'.ownBlock = some k → vl.ownBlock = some k

theorem rcut_after {B g k c n : Nat} {S : Nat → Prop} {vs : Value} {A : Option Addr} {rb : List Nat} {ss : List Scp} {acs : List RAct} {last : Int} {w wA : World} (h : RWd B S w g vs (.slice A n c) rb ss acs last) (hn : acs.length = n) (hk : k ≤ n) (hm : Mod Nil w wA) (hS : ∀ j, S j → j ≠ g) :
    RWd B S (wA.setCell ⟨g, 1, none⟩ (.slice A k c)) g vs (.slice A k c) rb ss (acs.take k) last ∧ Mod (fun j => j = g) w (wA.setCell ⟨g, 1, none⟩ (.slice A k c)) ∧ ∀ j, (Value.slice A k c).ownBlock = some j → (Value.slice A n c).ownBlock = some j := by
  have hms : Mod (fun k => k = g) wA (wA.setCell ⟨g, 1, none⟩ (.slice A k c)) := (Mod.refl (fun k => k = g) wA).set (p := ⟨g, 1, none⟩) (.inl rfl) _
  have hmw : Mod (fun k => k = g) w (wA.setCell ⟨g, 1, none⟩ (.slice A k c)) := (hm.any).trans hms
  have hvg : ¬ vs.ownBlock = some g := own_blk_ne h.scs h.blk (by decide)
  have hag : ¬ (Value.slice A n c).ownBlock = some g := own_blk_ne h.acts h.blk (by decide)
  have hob : ∀ j, (Value.slice A k c).ownBlock = some j → (Value.slice A n c).ownBlock = some j := by
    intro j hj
    cases A with
    | none => cases hj
    | some a => exact hj
  have hlen : (acs.take k).length = k := by rw [List.length_take]; omega
  refine ⟨⟨?_, h.low, own_keep h.scs hmw (fun j hj hjg => hvg (by rw [hj, hjg])), ?_, h.len, h.nd, fun j s b hs hb => ?_, fun p hp => (h.stk p (List.mem_of_mem_take hp)).keep hmw hS, h.acy⟩, hmw, hob⟩
  · have := (h.blk.keep hm id).set_ 1 (.slice A k c)
    simpa using this
  · subst hn
    have h2 := own_popk h.acts hk
    rw [hlen, flat_take]
    exact own_keep h2 hmw (fun j hj hjg => hag (by rw [hob j hj, hjg]))
  · obtain ⟨h1, h2⟩ := h.vars j s b hs hb
    exact ⟨h1.keep hmw (fun e => Blk.ne_ h1 h.blk (by decide) e), h2⟩

set_option maxHeartbeats 3200000 in
set_option maxRecDepth 100000 in
theorem rPopTo_any (B g : Nat) (S : Nat → Prop) (vs vl : Value) (rb : List Nat) (ss : List Scp) (acs : List RAct) (last : Int) (home : Int) (w : World) (h : RWd B S w g vs vl rb ss acs last) (hn : acs.length ≤ 100) (hS : ∀ j, S j → j ≠ g) :
    Calls Try.prog 15 #[.pointer (some ⟨g, 0, none⟩), .int .i64 home] w (RCutPost B g S vs vl rb ss acs last w (if 0 ≤ idx (acs.map (·.a.id)) home then (idx (acs.map (·.a.id)) home).toNat else acs.length) (0 ≤ idx (acs.map (·.a.id)) home)) := by
  have H := Lib.hid h
  obtain ⟨A, c, rfl, hnc, hcm⟩ := own_slice h.acts
  have hc1 := h.blk.cell 1
  have hf1 := h.blk.frozen 1
  obtain ⟨n, hnn⟩ : ∃ n, acs.length = n := ⟨_, rfl⟩
  have HN := Lib.hid hnn
  have H' := Lib.hid (show RWd B S w g vs (.slice A n c) rb ss acs last by rw [← hnn]; exact h)
  rw [hnn] at hc1 hnc hn
  have HHS := Lib.hid hS
  obtain ⟨ix, hix⟩ : ∃ ix, ix = idx (acs.map (·.a.id)) home := ⟨_, rfl⟩
  have HIX := Lib.hid hix
  rw [← hix, hnn]
  obtain ⟨m0, hm0⟩ : ∃ m0, m0 = (if 0 ≤ ix then ix.toNat else n) := ⟨_, rfl⟩
  obtain ⟨b0, hb0⟩ : ∃ b0, b0 = decide (0 ≤ ix) := ⟨_, rfl⟩
  rw [← hm0, ← hb0]
  have HM0 := Lib.hid hm0
  have HB0 := Lib.hid hb0
  unfold maxLen at hcm
  clear h hnn hS hix hm0 hb0
  go_enter Try.func15, Try.ntmps15
  go_wp2_with fail
  go_loop [5] (fun i => ∃ (k : Nat), k ≤ n ∧ i = .int .i64 k ∧ ∀ (j : Nat) (i : Int), j < k → (acs.map (·.a.id))[j]? = some i → i ≠ home) (fun v => n - (intOf v).toNat)
  case atStart => exact ⟨0, Nat.zero_le _, rfl, fun j i hj => absurd hj (by omega)⟩
  case round =>
    obtain ⟨k, hk, rfl, hno⟩ := hrel
    have HNO := Lib.hid hno
    clear hno
    by_cases hlt : k < n
    · obtain ⟨p, hp⟩ : ∃ p, acs[k]? = some p := ⟨_, List.getElem?_eq_getElem (by rw [HN.out]; exact hlt)⟩
      obtain ⟨h0, _⟩ := act_at hp
      obtain ⟨gb, cap, hv, hgb, hgl⟩ := H'.out.acts.form (by rw [HN.out]; omega)
      injection hv with hA _ hcap
      subst hA hcap
      have hcell := H'.out.acts.cells (g := gb) rfl (k * 5) _ h0
      rw [Addr.add_lit, Nat.zero_add] at hcell
      have hpi : (acs.map (·.a.id))[k]? = some p.a.id := by rw [List.getElem?_map, hp]; rfl
      have HPI := Lib.hid hpi
      clear hp h0 hpi
      by_cases he : p.a.id = home
      · have HE := Lib.hid (show ix = (k : Int) by rw [HIX.out]; exact idx_at (by rw [List.length_map, HN.out]) he hlt HPI.out HNO.out)
        have heb : (p.a.id == home) = true := by simp [he]
        have HEH := Lib.hid he
        clear he
        go_wp2_with fail
        go_ret
        rw [HM0.out, HB0.out, HE.out, if_pos (by omega), Int.toNat_natCast, decide_eq_true (by omega)]
        obtain ⟨q1, q2, q3⟩ := rcut_after H'.out HN.out (Nat.le_of_lt hlt) (Mod.refl Nil w) HHS.out
        exact ⟨rfl, _, q1, q2, q3⟩
      · have heb : (p.a.id == home) = false := by simp [he]
        have HEH := Lib.hid he
        clear he
        go_wp2_with fail
        go_round
        case rel => exact ⟨k + 1, by omega, by go_num, fun j i hj hi => (Nat.lt_succ_iff_lt_or_eq.1 hj).elim (fun h => HNO.out j i h hi) (fun h => by subst h; rw [HPI.out] at hi; injection hi with hi; subst hi; exact HEH.out)⟩
        case measure => simp [intOf] <;> omega
    · have HE := Lib.hid (show ix = -1 by rw [HIX.out]; exact idx_no (fun j i hi => HNO.out j i (by have := (List.getElem?_eq_some_iff.1 hi).1; rw [List.length_map, HN.out] at this; omega) hi))
      go_wp2_with fail
      go_ret
      rw [HM0.out, HB0.out, HE.out, if_neg (by omega), decide_eq_false (by omega)]
      exact ⟨rfl, _, by rw [List.take_of_length_le (by rw [HN.out]; omega)]; exact H'.out, Mod.refl _ _, fun _ h => h⟩

/-! ### the words of all -/
theorem int_info : (Try.prog.info? 3).map (fun i => (i.zero, i.size, i.bytes)) = some (some (.int .i64 0), 1, 8) := by kernel_rfl
theorem wv_one (l : List Int) : ∀ u ∈ l.map wv, u.oneCell' = true := by
  intro u hu
  obtain ⟨_, _, rfl⟩ := List.mem_map.1 hu
  rfl
def iv (n : Nat) : Value := .int .i64 n
theorem iv_one (l : List Nat) : ∀ u ∈ l.map iv, u.oneCell' = true := by
  intro u hu
  obtain ⟨_, _, rfl⟩ := List.mem_map.1 hu
  rfl

/-- Two slices of the call's own: words, numbers. -/
def RW2 (w0 : World) (ov sv : Value) (xs : List Int) (seen : List Nat) (wr : World) : Prop :=
  (∃ A c, ov = .slice A xs.length c ∧ wr.ownsRow w0.heap.size 34 1 ov xs.length (xs.map wv)) ∧ (∃ A c, sv = .slice A seen.length c ∧ wr.ownsRow w0.heap.size 3 1 sv seen.length (seen.map iv)) ∧ Mod Nil w0 wr

theorem own_own_ne {w : World} {B B' s1 s2 n1 n2 : Nat} {e1 e2 : TypeId} {v1 v2 : Value} {x1 x2 : List Value} (h1 : w.ownsRow B e1 s1 v1 n1 x1) (h2 : w.ownsRow B' e2 s2 v2 n2 x2) (he : e1 ≠ e2) {k : Nat} (hk : v1.ownBlock = some k) : ¬ v2.ownBlock = some k := by
  intro hk2
  rcases h1.2 with ⟨rfl, _⟩ | ⟨g1, cap1, cur1, rfl, _, hg1, _⟩
  · simp [Value.ownBlock] at hk
  · rcases h2.2 with ⟨rfl, _⟩ | ⟨g2, cap2, cur2, rfl, _, hg2, _⟩
    · simp [Value.ownBlock] at hk2
    · obtain rfl : g1 = k := by simpa [Value.ownBlock] using hk
      obtain rfl : g2 = g1 := by simpa [Value.ownBlock] using hk2
      rw [hg1] at hg2
      injection hg2 with hg2
      injection hg2 with _ h
      exact he (by simpa using h)

theorem RW2.keep {w0 wr w' : World} {ov sv : Value} {xs : List Int} {seen : List Nat} (h : RW2 w0 ov sv xs seen wr) (hm : Mod Nil wr w') : RW2 w0 ov sv xs seen w' := by
  obtain ⟨⟨A, c, h1, h2⟩, ⟨A', c', h3, h4⟩, h5⟩ := h
  exact ⟨⟨A, c, h1, own_keep h2 hm (fun _ _ => id)⟩, ⟨A', c', h3, own_keep h4 hm (fun _ _ => id)⟩, h5.trans hm⟩
theorem RW2.own {w0 wr : World} {A : Option Addr} {n c : Nat} {sv : Value} {xs : List Int} {seen : List Nat} (h : RW2 w0 (.slice A n c) sv xs seen wr) : n = xs.length ∧ wr.ownsRow w0.heap.size 34 1 (.slice A n c) n (xs.map wv) := by
  obtain ⟨⟨A1, c1, h1, h2⟩, _, _⟩ := h
  injection h1 with h1a h1c h1b
  subst h1a h1c h1b
  exact ⟨rfl, h2⟩
theorem RW2.ownS {w0 wr : World} {A : Option Addr} {n c : Nat} {ov : Value} {xs : List Int} {seen : List Nat} (h : RW2 w0 ov (.slice A n c) xs seen wr) : n = seen.length ∧ wr.ownsRow w0.heap.size 3 1 (.slice A n c) n (seen.map iv) := by
  obtain ⟨_, ⟨A1, c1, h1, h2⟩, _⟩ := h
  injection h1 with h1a h1c h1b
  subst h1a h1c h1b
  exact ⟨rfl, h2⟩
theorem RW2.open_ {w0 wr : World} {ov sv : Value} {xs : List Int} {seen : List Nat} (h : RW2 w0 ov sv xs seen wr) : ∃ A n c, ov = .slice A n c ∧ n = xs.length := by
  obtain ⟨⟨A1, c1, h1, h2⟩, _, _⟩ := h
  exact ⟨_, _, _, h1, rfl⟩
theorem Rd.of_blk {w : World} {b : Nat} {t : TypeId} {l : List Value} (h : Blk w b t l.toArray) : Rd All w (some ⟨b, 0, none⟩) l := fun _ => ⟨_, rfl, trivial, h.lt, fun j u hu => by rw [Addr.add_lit, Nat.zero_add, h.cell j]; simpa using hu⟩
theorem RW2.app {w0 wr w1 w' : World} {A A' : Option Addr} {c c' n m : Nat} {sv : Value} {xs ys : List Int} {seen : List Nat} {news : List Value} (h : RW2 w0 (.slice A n c) sv xs seen wr) (hm1 : Mod Nil wr w1) (hn : news = ys.map wv) (hl : ys.length = m)
    (hown : w'.ownsRow w0.heap.size 34 1 (.slice A' (n + m) c') (n + m) (xs.map wv ++ news)) (hm : Mod (fun k => (Value.slice A n c).ownBlock = some k) w1 w') : RW2 w0 (.slice A' (n + m) c') sv (xs ++ ys) seen w' := by
  have h' := h.keep hm1
  obtain ⟨e, h2⟩ := h'.own
  obtain ⟨_, ⟨A2, c2, e2, h4⟩, h5⟩ := h'
  subst hn hl e
  have hk4 := own_keep h4 hm (fun k hk hk2 => own_own_ne h2 h4 (by decide) hk2 hk)
  exact ⟨⟨A', c', by simp, by simpa using hown⟩, ⟨A2, c2, e2, hk4⟩, h5.trans' hm (fun _ _ h => h) (fun k hlt hk => by have := (h2.lt k hk).1; omega)⟩
theorem RW2.see {w0 wr w1 w' : World} {A A' : Option Addr} {c c' n j : Nat} {ov : Value} {xs : List Int} {seen : List Nat} {news : List Value} (h : RW2 w0 ov (.slice A n c) xs seen wr) (hm1 : Mod Nil wr w1) (hn : news = [iv j])
    (hown : w'.ownsRow w0.heap.size 3 1 (.slice A' (n + 1) c') (n + 1) (seen.map iv ++ news)) (hm : Mod (fun k => (Value.slice A n c).ownBlock = some k) w1 w') : RW2 w0 ov (.slice A' (n + 1) c') xs (seen ++ [j]) w' := by
  have h' := h.keep hm1
  obtain ⟨e, h4⟩ := h'.ownS
  obtain ⟨⟨A1, c1, e1, h2⟩, _, h5⟩ := h'
  subst hn e
  have hk2 := own_keep h2 hm (fun k hk hk2 => own_own_ne h2 h4 (by decide) hk hk2)
  exact ⟨⟨A1, c1, e1, hk2⟩, ⟨A', c', by simp, by simpa using hown⟩, h5.trans' hm (fun _ _ h => h) (fun k hlt hk => by have := (h4.lt k hk).1; omega)⟩

theorem upI_some (j : Nat) : upI (some j) = (j : Int) := rfl
theorem upI_none : upI none = -1 := rfl
theorem scW_len2 {ss : List Scp} (h : Acy ss) : ∀ (n : Nat) (k : Option Nat) (seen : List Nat), fuelOf k ≤ n → seen.length ≤ (scW ss k seen).2.length ∧ (scW ss k seen).2.length ≤ seen.length + n
  | _, none, seen, _ => by simp [scW_none]
  | 0, some k, seen, hk => by simp [fuelOf] at hk
  | n + 1, some k, seen, hk => by
    have hup : fuelOf (upOf ss k) ≤ n := by
      rcases hu : upOf ss k with _ | j
      · simp [fuelOf]
      · have := upOf_lt h hu; simp [fuelOf] at hk ⊢; omega
    rw [scW_some h]
    split
    · have := scW_len2 h n (upOf ss k) seen hup
      omega
    · have := scW_len2 h n (upOf ss k) (seen ++ [k]) hup
      simp only [List.length_append, List.length_cons, List.length_nil] at this
      simp only []
      omega
theorem fuel_le {n m : Nat} {sc : Option Nat} (hs : n ≤ m) (hj : ∀ j, sc = some j → j < n) : fuelOf sc ≤ m := by
  cases hsc : sc with
  | none => simp [fuelOf]
  | some j => have := hj j hsc; simp [fuelOf]; omega
theorem frW_len2 {ss : List Scp} (h : Acy ss) (hs : ss.length ≤ 40) : ∀ (fs : List Frm) (seen : List Nat), (∀ f ∈ fs, ∀ j, f.sc = some j → j < ss.length) → (frW ss fs seen).2.length ≤ seen.length + fs.length * 40
  | [], seen, _ => by simp [frW]
  | f :: r, seen, hj => by
    have h1 := frW_len2 h hs r (scW ss f.sc seen).2 (fun x hx => hj x (by simp [hx]))
    have h3 := (scW_len2 h 40 f.sc seen (fuel_le hs (hj f (by simp)))).2
    rw [frW]
    simp only [List.length_cons]
    omega

set_option maxHeartbeats 12800000 in
set_option maxRecDepth 100000 in
theorem rWords_any (B g : Nat) (S : Nat → Prop) (vs vl : Value) (rb : List Nat) (ss : List Scp) (acs : List RAct) (last : Int) (w : World) (h : RWd B S w g vs vl rb ss acs last)
    (hfe : acs.length ≤ 40 ∧ ss.length ≤ 40 ∧ (∀ s ∈ ss, s.vars.length ≤ 300) ∧ ∀ p ∈ acs, p.a.stack.length ≤ 20) (hval : ∀ p ∈ acs, ∀ j, p.a.sc = some j → j < ss.length) :
    Calls Try.prog 20 #[.pointer (some ⟨g, 0, none⟩)] w fun r w' => ∃ A c, r = .returned (.slice A (frW ss (acs.map (·.a)) []).1.length c) ∧ w'.ownsRow w.heap.size 34 1 (.slice A (frW ss (acs.map (·.a)) []).1.length c) (frW ss (acs.map (·.a)) []).1.length ((frW ss (acs.map (·.a)) []).1.map wv) ∧ Mod Nil w w' := by
  obtain ⟨i0, hi, hz0, hz1, hz2⟩ := info_parts word_info
  obtain ⟨j0, ji, jz0, jz1, jz2⟩ := info_parts int_info
  have H := Lib.hid h
  have HFE := Lib.hid hfe
  have HVAL := Lib.hid hval
  obtain ⟨A, c, rfl, hnc, hcm⟩ := own_slice h.acts
  obtain ⟨As, cc, rfl, hnc2, hcm2⟩ := own_slice h.scs
  obtain ⟨n, hnn⟩ : ∃ n, acs.length = n := ⟨_, rfl⟩
  have HN := Lib.hid hnn
  have hc0 := h.blk.cell 0
  have hc1 := h.blk.cell 1
  have hgl := h.blk.lt
  rw [hnn] at hc1
  have hn40 : n ≤ 40 := by rw [← hnn]; exact hfe.1
  have HV := Lib.hid (varsOf_len hfe.2.2.1)
  obtain ⟨fs, hfs⟩ : ∃ fs, fs = acs.map (·.a) := ⟨_, rfl⟩
  have HFS := Lib.hid hfs
  rw [← hfs]
  have hfl : ∀ f ∈ fs, ∃ p ∈ acs, p.a = f := by rw [hfs]; intro f hf; obtain ⟨p, hp, rfl⟩ := List.mem_map.1 hf; exact ⟨p, hp, rfl⟩
  have hfv : ∀ f ∈ fs, ∀ j, f.sc = some j → j < ss.length := fun f hf => by obtain ⟨p, hp, rfl⟩ := hfl f hf; exact hval p hp
  have hfk : ∀ f ∈ fs, f.stack.length ≤ 20 := fun f hf => by obtain ⟨p, hp, rfl⟩ := hfl f hf; exact hfe.2.2.2 p hp
  have HFV := Lib.hid hfv
  have HLEN := Lib.hid (fun k => frW_len h.acy (varsOf_len hfe.2.2.1) hfe.2.1 (fs.take k) [] (fun f hf => hfv f (List.mem_of_mem_take hf)) (fun f hf => hfk f (List.mem_of_mem_take hf)))
  have HIN := Lib.hid (fun k => frW_in h.acy (fs.take k) [] (fun j hj => by simp at hj) (fun f hf => hfv f (List.mem_of_mem_take hf)))
  have HFLN := Lib.hid (show fs.length = n by rw [hfs, List.length_map, hnn])
  have HST := Lib.hid (show RW2 w (.slice none 0 0) (.slice none 0 0) [] [] w from ⟨⟨none, 0, rfl, World.ownsRow_nil _ _ _ _⟩, ⟨none, 0, rfl, World.ownsRow_nil _ _ _ _⟩, Mod.refl _ _⟩)
  clear h hfe hval hnn hfs hfl hfv hfk
  go_enter Try.func20, Try.ntmps20
  go_wp2_with fail
  go_loopw [3, 4, 5] (fun ov sv v wr => ∃ (k : Nat), k ≤ n ∧ v = .int .i64 k ∧ RW2 w ov sv (frW ss (fs.take k) []).1 (frW ss (fs.take k) []).2 wr) (fun _ _ v _ => n - (intOf v).toNat)
  case atStart => exact ⟨0, Nat.zero_le _, rfl, HST.out⟩
  case round =>
    obtain ⟨k, hk, rfl, hrw⟩ := hrel
    obtain ⟨⟨Ao, co, rfl, hoo⟩, ⟨Ap, cp, rfl, hos⟩, hm⟩ := hrw
    have HOO := Lib.hid hoo
    have HOS := Lib.hid hos
    have HM := Lib.hid hm
    obtain ⟨X, hX⟩ : ∃ X, X = (frW ss (fs.take k) []).1 := ⟨_, rfl⟩
    obtain ⟨SN, hSN⟩ : ∃ SN, SN = (frW ss (fs.take k) []).2 := ⟨_, rfl⟩
    have hc0' := (hm.cell (p := ⟨g, 0, none⟩) hgl id).trans hc0
    have hc1' := (hm.cell (p := ⟨g, 1, none⟩) hgl id).trans hc1
    by_cases hlt : k < n
    · obtain ⟨p, hp⟩ : ∃ p, acs[k]? = some p := ⟨_, List.getElem?_eq_getElem (by rw [HN.out]; exact hlt)⟩
      obtain ⟨_, _, h2, h3, h4⟩ := act_at hp
      obtain ⟨gb, cap, hv, hgb, hgl2⟩ := H.out.acts.form (by rw [HN.out]; omega)
      injection hv with hA _ hcap
      subst hA hcap
      have k2 := H.out.acts.cells (g := gb) rfl (k * 5 + 2) _ h2
      have k3 := H.out.acts.cells (g := gb) rfl (k * 5 + 3) _ h3
      have k4 := H.out.acts.cells (g := gb) rfl (k * 5 + 4) _ h4
      rw [Addr.add_lit, Nat.zero_add] at k2 k3 k4
      have HKC := Lib.hid (show ∀ wx, Mod Nil w wx → wx.cell? ⟨gb, k * 5 + 2, none⟩ = some (.int .u64 p.a.self) ∧ wx.cell? ⟨gb, k * 5 + 3, none⟩ = some (.slice p.A p.a.stack.length p.c) ∧ wx.cell? ⟨gb, k * 5 + 4, none⟩ = some (.int .i64 (upI p.a.sc)) ∧ wx.cell? ⟨g, 0, none⟩ = some (.slice As ss.length cc) ∧ wx.cell? ⟨g, 1, none⟩ = some (.slice (some ⟨gb, 0, none⟩) n c) from fun wx hmx => ⟨(hmx.cell (p := ⟨gb, k * 5 + 2, none⟩) hgl2 id).trans k2, (hmx.cell (p := ⟨gb, k * 5 + 3, none⟩) hgl2 id).trans k3, (hmx.cell (p := ⟨gb, k * 5 + 4, none⟩) hgl2 id).trans k4, (hmx.cell (p := ⟨g, 0, none⟩) hgl id).trans hc0, (hmx.cell (p := ⟨g, 1, none⟩) hgl id).trans hc1⟩)
      have HRW := Lib.hid (show RW2 w (.slice Ao (frW ss (fs.take k) []).1.length co) (.slice Ap (frW ss (fs.take k) []).2.length cp) (frW ss (fs.take k) []).1 (frW ss (fs.take k) []).2 wr from ⟨⟨Ao, co, rfl, hoo⟩, ⟨Ap, cp, rfl, hos⟩, hm⟩)
      rw [← hX, ← hSN] at HRW
      rw [← hX, ← hSN]
      have HP := Lib.hid hp
      obtain ⟨j2, j3, j4, _, _⟩ := HKC.out _ hm
      have HX0 := Lib.hid hX
      have HSN0 := Lib.hid hSN
      clear hoo hos hm hp h2 h3 h4 k2 k3 k4 hX hSN HOO HOS
      have hst20 := HFE.out.2.2.2 p (List.mem_of_getElem? HP.out)
      have hXl : X.length ≤ 480840 := by have := HLEN.out k; rw [← HX0.out, List.length_take] at this; omega
      have hSl : SN.length ≤ 1600 := by
        have h1 := frW_len2 H.out.acy HFE.out.2.1 (fs.take k) [] (fun f hf => HFV.out f (List.mem_of_mem_take hf))
        rw [← HSN0.out, List.length_take] at h1
        simp at h1
        omega
      have HMR := Lib.hid HRW.out.2.2
      have HSK := Lib.hid ((H.out.stk p (List.mem_of_getElem? HP.out)))
      go_wp2_with (at_builtin; first
        | (refine wpList_append1' _ rfl (.tmp 18) (.tmp 27) 35 rfl w.heap.size 34 i0 (.int .u64 0) 8 Try.underlying35 hi hz0 hz1 hz2 rfl (.slice Ao X.length co) X.length (X.map wv) rfl (own_keep HRW.out.own.2 ((Mod.refl Nil wr).alloc _) (fun _ _ => id)) All _ 1 1 [.int .u64 p.a.self] rfl rfl (Rd.cells1 _ _ _) (by intro u hu; obtain rfl := List.mem_singleton.1 hu; rfl) (by omega) (by simp only [maxLen]; omega) (by simp [World.setCell]; have := HMR.out.size; omega) ?_; intro A1 c1 w1 hown1 hmod1 hat1; have HRW1 := Lib.hid (HRW.out.app (ys := [p.a.self]) ((Mod.refl Nil wr).alloc _) rfl rfl hown1 hmod1); have hl1 := HKC.out _ HRW1.out.2.2; obtain ⟨l2, l3, l4, l5, l6⟩ := hl1; clear hown1 hmod1 hat1)
        | (refine wpList_append1' _ rfl (.tmp 29) (.tmp 37) 35 rfl w.heap.size 34 i0 (.int .u64 0) 8 Try.underlying35 hi hz0 hz1 hz2 rfl (.slice A1 (X.length + 1) c1) (X.length + 1) ((X ++ [p.a.self]).map wv) rfl HRW1.out.own.2 S _ p.a.stack.length p.c (p.a.stack.map wv) rfl (by simp) (HSK.out.keep0 HRW1.out.2.2) (wv_one _) (by omega) (by simp only [maxLen]; omega) (by have := HRW1.out.2.2.size; omega) ?_; intro A2 c2 w2 hown2 hmod2 hat2; have HRW2 := Lib.hid (HRW1.out.app (ys := p.a.stack) (Mod.refl Nil w1) rfl rfl hown2 hmod2); have hl2 := HKC.out _ HRW2.out.2.2; clear l2 l3 l4 l5 l6; obtain ⟨m2, m3, m4, m5, m6⟩ := hl2; clear hown2 hmod2 hat2))
      obtain ⟨R1, hR1⟩ : ∃ R1, R1 = (scW ss p.a.sc SN).1 := ⟨_, rfl⟩
      obtain ⟨R2, hR2⟩ : ∃ R2, R2 = (scW ss p.a.sc SN).2 := ⟨_, rfl⟩
      have HR1 := Lib.hid hR1
      have HR2 := Lib.hid hR2
      have HPV := Lib.hid (HVAL.out p (List.mem_of_getElem? HP.out))
      have HSI := Lib.hid (show AllIn SN ss.length from HSN0.out ▸ HIN.out k)
      have hRl : R1.length ≤ 12000 := by rw [hR1]; exact scW_bd H.out.acy HV.out HFE.out.2.1 _ SN HPV.out
      have hR2l : R2.length ≤ 1700 := by
        have h1 := (scW_len2 H.out.acy 40 p.a.sc SN (fuel_le HFE.out.2.1 HPV.out)).2
        rw [← hR2] at h1
        omega
      obtain ⟨Y, hY⟩ : ∃ Y, Y = X ++ [p.a.self] ++ p.a.stack := ⟨_, rfl⟩
      have hYl : Y.length ≤ 480861 := by rw [hY]; simp; omega
      have HFW := Lib.hid (show frW ss (fs.take (k + 1)) [] = (Y ++ R1, R2) by rw [frW_take ss fs k p.a (by rw [HFS.out, List.getElem?_map, HP.out]; rfl), ← HX0.out, ← HSN0.out, hR1, hR2, hY]; simp)
      rw [← hY] at HRW2
      clear hR1 hR2 hY
      go_loopw [3, 4, 6] (fun ov sv v wx => ∃ (k' : Option Nat) (part : List Int) (sn : List Nat), v = .int .i64 (upI k') ∧ part ++ (scW ss k' sn).1 = R1 ∧ (scW ss k' sn).2 = R2 ∧ AllIn sn ss.length ∧ (∀ j, k' = some j → j < ss.length) ∧ RW2 w ov sv (Y ++ part) sn wx) (fun _ _ v _ => (intOf v + 1).toNat)
      case atStart => exact ⟨p.a.sc, [], SN, rfl, by rw [HR1.out]; rfl, HR2.out.symm, HSI.out, HPV.out, by simpa using HRW2.out⟩
      case round =>
        obtain ⟨k', part, sn, rfl, hp1, hp2, hsn, hk', hrw⟩ := hrel
        obtain ⟨A3, ol, c3, rfl, hol⟩ := hrw.open_
        obtain ⟨_, ⟨A4, c4, rfl, _⟩, hmx⟩ := id hrw
        have HP1 := Lib.hid hp1
        have HP2 := Lib.hid hp2
        have HSN := Lib.hid hsn
        have HK' := Lib.hid hk'
        have HRX := Lib.hid hrw
        have hpl : part.length ≤ 12000 := by rw [← hp1] at hRl; simp at hRl; omega
        have hsl : sn.length ≤ 1700 := by
          have h1 := (scW_len2 H.out.acy 40 k' sn (fuel_le HFE.out.2.1 hk')).1
          rw [hp2] at h1
          omega
        have hol2 : ol ≤ 492861 := by rw [List.length_append] at hol; omega
        clear hol
        obtain ⟨m2', m3', m4', m5', m6'⟩ := HKC.out _ hmx
        clear hp1 hp2 hsn hk' hrw hmx m2 m3 m4 m5 m6
        cases k' with
        | none =>
          rw [upI_none]
          go_wp2_with fail
          go_roundw
          case rel =>
            refine ⟨k + 1, by omega, by go_num, ?_⟩
            rw [HFW.out]
            have e1 := HP1.out
            have e2 := HP2.out
            rw [scW_none] at e1 e2
            simp at e1 e2
            rw [← e1, ← e2]
            exact HRX.out
          case measure => simp [intOf] <;> omega
        | some j =>
          have hj := HK'.out j rfl
          obtain ⟨s, hs⟩ : ∃ s, ss[j]? = some s := ⟨_, List.getElem?_eq_getElem hj⟩
          obtain ⟨b, hb, z0, z1⟩ := zip_at H.out.len hs
          obtain ⟨gs, cap, hv, hgs, hgsl⟩ := H.out.scs.form (by omega)
          injection hv with hA _ hcap
          subst hA hcap
          have s0 := H.out.scs.cells (g := gs) rfl (j * 2) _ z0
          have s1 := H.out.scs.cells (g := gs) rfl (j * 2 + 1) _ z1
          rw [Addr.add_lit, Nat.zero_add] at s0 s1
          obtain ⟨hbv, _⟩ := H.out.vars j s b hs hb
          have HKS := Lib.hid (show ∀ wx, Mod Nil w wx → wx.cell? ⟨gs, j * 2, none⟩ = some (.slice (some ⟨b, 0, none⟩) s.vars.length s.vars.length) ∧ wx.cell? ⟨gs, j * 2 + 1, none⟩ = some (.int .i64 (upI s.up)) ∧ Blk wx b 34 (s.vars.map wv).toArray from fun wx hmx => ⟨(hmx.cell (p := ⟨gs, j * 2, none⟩) hgsl id).trans s0, (hmx.cell (p := ⟨gs, j * 2 + 1, none⟩) hgsl id).trans s1, hbv.keep hmx id⟩)
          have hvar : varsOf ss j = s.vars := by unfold varsOf; rw [hs]; rfl
          have hue : upOf ss j = s.up := by unfold upOf; rw [hs]; rfl
          have HV2 := Lib.hid hvar
          have HUE := Lib.hid hue
          have hv300 := HFE.out.2.2.1 s (List.mem_of_getElem? hs)
          have hvu : ∀ i, s.up = some i → i < ss.length ∧ i < j := fun i hi => by rw [← hue] at hi; have := upOf_lt H.out.acy hi; omega
          have HVU := Lib.hid hvu
          have hui : -1 ≤ upI s.up ∧ upI s.up < j := by
            cases hu : s.up with
            | none => simp [upI]; omega
            | some i => have := (hvu i hu).2; simp [upI]; omega
          obtain ⟨q0, q1, _⟩ := HKS.out _ HRX.out.2.2
          obtain ⟨su, hsu⟩ : ∃ su, su = upI s.up := ⟨_, rfl⟩
          rw [← hsu] at q1 hui HKS
          have HSU := Lib.hid hsu
          clear hs hb z0 z1 s0 s1 hbv hvar hue hvu hsu
          rw [upI_some]
          go_wp2_with fail
          go_loopw [7, 8] (fun tv ix wy => ∃ (m : Nat) (bb : Bool), m ≤ sn.length ∧ ix = .int .i64 m ∧ tv = .bool bb ∧ (bb = true ↔ j ∈ sn.take m) ∧ Mod Nil wr wy) (fun _ v _ => sn.length - (intOf v).toNat)
          case atStart => exact ⟨0, false, Nat.zero_le _, rfl, rfl, by simp, Mod.refl _ _⟩
          case round =>
            obtain ⟨m, bb, hm, rfl, rfl, hbb, hmy⟩ := hrel
            have HBB := Lib.hid hbb
            have HRY := Lib.hid (HRX.out.keep hmy)
            have HMY := Lib.hid hmy
            obtain ⟨t0, t1, tb⟩ := HKS.out _ HRY.out.2.2
            obtain ⟨r2, r3, r4, r5, r6⟩ := HKC.out _ HRY.out.2.2
            by_cases hml : m < sn.length
            · obtain ⟨x, hx⟩ : ∃ x, sn[m]? = some x := ⟨_, List.getElem?_eq_getElem hml⟩
              have HTK := Lib.hid (show sn.take (m + 1) = sn.take m ++ [x] by rw [List.take_add_one, hx]; rfl)
              obtain ⟨gq, cap, hv, _, hgql⟩ := HRY.out.ownS.2.form (by omega)
              injection hv with hA _ hcap
              subst hA hcap
              have hcx := HRY.out.ownS.2.cells (g := gq) rfl m (iv x) (by rw [List.getElem?_map, hx]; rfl)
              rw [Addr.add_lit, Nat.zero_add] at hcx
              unfold iv at hcx
              clear hmy hx
              clear hbb
              cases bb with
              | true =>
                go_wp2_with fail
                go_roundw
                case rel => exact ⟨m + 1, true, by omega, by go_num, rfl, by rw [HTK.out]; have := HBB.out; simp at this; simp [this], by first | exact HMY.out | exact HMY.out.drew | exact HMY.out.drewN _⟩
                case measure => simp [intOf] <;> omega
              | false =>
                go_wp2_with fail
                go_roundw
                case rel => exact ⟨m + 1, ((x : Int) == (j : Int)), by omega, by go_num, rfl, by rw [HTK.out]; have := HBB.out; simp at this; simp [this]; first | done | exact eq_comm | omega, by first | exact HMY.out | exact HMY.out.drew | exact HMY.out.drewN _⟩
                case measure => simp [intOf] <;> omega
            · have HTM := Lib.hid (show sn.take m = sn from List.take_of_length_le (by omega))
              rw [HTM.out] at hbb
              clear hmy HBB
              by_cases hin : j ∈ sn
              · have HN := Lib.hid (show scW ss (some j) sn = scW ss s.up sn by rw [scW_some H.out.acy, if_pos hin, HUE.out])
                obtain rfl : bb = true := hbb.2 hin
                clear hin hbb
                go_wp2_with fail
                go_roundw
                case rel => exact ⟨s.up, part, sn, by rw [HSU.out], by rw [← HN.out]; exact HP1.out, by rw [← HN.out]; exact HP2.out, HSN.out, fun i hi => (HVU.out i hi).1, HRY.out⟩
                case measure => simp [intOf] <;> omega
              · have HN := Lib.hid (show scW ss (some j) sn = (s.vars ++ (scW ss s.up (sn ++ [j])).1, (scW ss s.up (sn ++ [j])).2) by rw [scW_some H.out.acy, if_neg hin, HV2.out, HUE.out])
                obtain rfl : bb = false := by cases bb with | true => exact absurd (hbb.1 rfl) hin | false => rfl
                clear hin hbb
                go_wp2_with (at_builtin; first
                  | (refine wpList_append1' _ rfl (.tmp 74) (.tmp 76) 77 rfl w.heap.size 3 j0 (.int .i64 0) 8 Try.underlying77 ji jz0 jz1 jz2 rfl (.slice A4 sn.length c4) sn.length (sn.map iv) rfl (own_keep HRY.out.ownS.2 ((Mod.refl Nil wr).alloc _) (fun _ _ => id)) All _ 1 1 [.int .i64 j] rfl rfl (Rd.cells1 _ _ _) (by intro u hu; obtain rfl := List.mem_singleton.1 hu; rfl) (by omega) (by simp only [maxLen]; omega) (by simp; have := HRY.out.2.2.size; omega) ?_; intro A5 c5 w5 hown5 hmod5 hat5; have HRY5 := Lib.hid (HRY.out.see (j := j) ((Mod.refl Nil wr).alloc _) rfl hown5 hmod5); clear t0 t1 tb r2 r3 r4 r5 r6; have ht := HKS.out _ HRY5.out.2.2; obtain ⟨t0, t1, tb⟩ := ht; have hrr := HKC.out _ HRY5.out.2.2; obtain ⟨r2, r3, r4, r5, r6⟩ := hrr; clear hown5 hmod5 hat5)
                  | (refine wpList_append1' _ rfl (.tmp 78) (.tmp 86) 35 rfl w.heap.size 34 i0 (.int .u64 0) 8 Try.underlying35 hi hz0 hz1 hz2 rfl (.slice A3 ol c3) ol ((Y ++ part).map wv) rfl HRY5.out.own.2 All _ s.vars.length s.vars.length (s.vars.map wv) rfl (by simp) (Rd.of_blk tb) (wv_one _) (by omega) (by simp only [maxLen]; omega) (by have := HRY5.out.2.2.size; omega) ?_; intro A6 c6 w6 hown6 hmod6 hat6; have HRY6 := Lib.hid (HRY5.out.app (ys := s.vars) (Mod.refl Nil w5) rfl rfl hown6 hmod6); clear t0 t1 tb r2 r3 r4 r5 r6; have ht := HKS.out _ HRY6.out.2.2; obtain ⟨t0, t1, tb⟩ := ht; have hrr := HKC.out _ HRY6.out.2.2; obtain ⟨r2, r3, r4, r5, r6⟩ := hrr; clear hown6 hmod6 hat6))
                go_roundw
                case rel =>
                  refine ⟨s.up, part ++ s.vars, sn ++ [j], by rw [HSU.out], ?_, ?_, ?_, fun i hi => (HVU.out i hi).1, by rw [← List.append_assoc]; exact HRY6.out⟩
                  · have := HP1.out; rw [HN.out] at this; simpa using this
                  · have := HP2.out; rw [HN.out] at this; exact this
                  · intro i hi
                    rcases List.mem_append.1 hi with hi | hi
                    · exact HSN.out i hi
                    · simp at hi; omega
                case measure => simp [intOf] <;> omega
    · clear hoo hos hm
      have HT := Lib.hid (show fs.take k = fs from List.take_of_length_le (by rw [HFLN.out]; omega))
      have HO2 := HOO.out
      rw [HT.out] at HO2 ⊢
      have HO3 := Lib.hid HO2
      clear HO2 hX hSN
      go_wp2_with fail
      go_ret
      exact ⟨Ao, co, rfl, HO3.out, HM.out⟩
end Go.Proofs.Ytpjpmlhnhcmacaa
