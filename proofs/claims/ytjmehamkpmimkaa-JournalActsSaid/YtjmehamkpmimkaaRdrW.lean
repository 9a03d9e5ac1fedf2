/- Contracts of octet.Reader: Open, Err, Left, End, fail, get, Num, Int. -/
import Derived.Test.YtjmehamkpmimkaaOctY
import Derived.Lib.EndianBits
namespace Go.Proofs.Ytjmehamkpmimkaa
open Go.RowKit

/-- The number that octets are, the highest first. -/
def beVal (l : List UInt8) : Nat := l.foldl (fun n c => n * 256 + c.toNat) 0
theorem u64_join8 (V : Nat) (x : UInt8) (h : V < 72057594037927936) : bits .or .u64 ((V : Int) * 256) (IntKind.u64.wrap (x.toNat : Int)) = ((V * 256 + x.toNat : Nat) : Int) := by
  have hx := x.toNat_lt
  rw [wraps_u64 _ (by omega) (by omega), bits_join .u64 64 (by decide) (fun n h0 h1 => wraps_u64 n h0 h1) 8 _ _ (by omega) (by omega) (by omega) (by omega) (by omega) (by omega)]
  omega
theorem beVal_snoc (l : List UInt8) (c : UInt8) : beVal (l ++ [c]) = beVal l * 256 + c.toNat := by simp [beVal]
theorem beVal_lt (l : List UInt8) : beVal l < 256 ^ l.length := by
  have key : ∀ (l : List UInt8) (a : Nat), l.foldl (fun n c => n * 256 + c.toNat) a < (a + 1) * 256 ^ l.length := by
    intro l
    induction l with
    | nil => intro a; simp
    | cons c l ih =>
      intro a
      have h1 := ih (a * 256 + c.toNat)
      have h2 := c.toNat_lt
      have h3 : (a * 256 + c.toNat + 1) * 256 ^ l.length ≤ ((a + 1) * 256) * 256 ^ l.length := Nat.mul_le_mul_right _ (by omega)
      rw [List.foldl_cons, List.length_cons, Nat.pow_succ, Nat.mul_comm (256 ^ l.length), ← Nat.mul_assoc]
      omega
  have := key l 0
  simpa [beVal] using this

/-- What is left, and the error. -/
abbrev RSt := List UInt8 × Int
def rGet (size : Nat) (s : RSt) : Nat × RSt × Bool := if s.2 = 0 then (if s.1.length < size then (0, (s.1, 10), false) else (beVal (s.1.take size), s, true)) else (0, s, false)
def rNum (s : RSt) : Nat × RSt := if s.2 = 0 then (if s.1.length < 4 then (0, (s.1, 10)) else if 2147483647 < beVal (s.1.take 4) then (0, (s.1, 11)) else (beVal (s.1.take 4), (s.1.drop 4, 0))) else (0, s)
def rInt (s : RSt) : Int × RSt := if s.2 = 0 then (if s.1.length < 8 then (0, (s.1, 10)) else (wrap64 (beVal (s.1.take 8) : Nat), (s.1.drop 8, 0))) else (0, s)
def rText (s : RSt) : List UInt8 × RSt := if (rNum s).2.2 = 0 then (if (rNum s).2.1.length < (rNum s).1 then ([], (s.1, 10)) else ((rNum s).2.1.take (rNum s).1, ((rNum s).2.1.drop (rNum s).1, 0))) else ([], (s.1, (rNum s).2.2))
def rLoop : Nat → RSt → List (List UInt8) × RSt
  | 0, s => ([], s)
  | n + 1, s => if s.2 = 0 then ((rText s).1 :: (rLoop n (rText s).2).1, (rLoop n (rText s).2).2) else ([], s)
def rTexts (s : RSt) : List (List UInt8) × RSt :=
  if (rNum s).2.2 = 0 then
    (if 1000000 < (rNum s).1 ∨ (rNum s).2.1.length < (rNum s).1 then ([], (s.1, 10)) else
      if (rLoop (rNum s).1 (rNum s).2).2.2 = 0 then rLoop (rNum s).1 (rNum s).2 else ([], (s.1, (rLoop (rNum s).1 (rNum s).2).2.2)))
  else ([], (s.1, (rNum s).2.2))

/-- A reader at g, its octets in blocks of S: what is left, its error. -/
def RdrAt (S : Nat → Prop) (w : World) (g : Nat) (s : RSt) : Prop :=
  ∃ A c, Blk w g 136 #[.slice A s.1.length c, .int .i64 s.2] ∧ s.1.length ≤ c ∧ c ≤ maxLen ∧ Rd S w A (s.1.map bv) ∧ ¬ S g

theorem RdrAt.keep {S F : Nat → Prop} {w w' : World} {g : Nat} {s : RSt} (h : RdrAt S w g s) (hm : Mod F w w') (hF : ∀ k, S k ∨ k = g → ¬ F k) : RdrAt S w' g s := by
  obtain ⟨A, c, h1, h2, h3, h4, h5⟩ := h
  exact ⟨A, c, h1.keep hm (hF g (.inr rfl)), h2, h3, h4.keep hm (fun k hk => hF k (.inl hk)), h5⟩
theorem RdrAt.keep0 {S : Nat → Prop} {w w' : World} {g : Nat} {s : RSt} (h : RdrAt S w g s) (hm : Mod Nil w w') : RdrAt S w' g s := h.keep hm (fun _ _ => id)
theorem RdrAt.lt {S : Nat → Prop} {w : World} {g : Nat} {s : RSt} (h : RdrAt S w g s) : g < w.heap.size := by
  obtain ⟨A, c, h1, _, _, _, _⟩ := h
  exact h1.lt

/-- What a call on a reader leaves. -/
def RdrPost (S : Nat → Prop) (g : Nat) (w : World) (s : RSt) (e : Ending) (r : Ending) (w' : World) : Prop := r = e ∧ RdrAt S w' g s ∧ Mod (fun k => k = g) w w'

theorem rd_far {S : Nat → Prop} {w : World} {A : Option Addr} {xs : List Value} {g i : Nat} {v : Value} (h : Rd S w A xs) (hS : ∀ k, S k → k ≠ g) : Rd S (w.setCell ⟨g, i, none⟩ v) A xs :=
  h.keep ((Mod.refl (fun k => k = g) w).set (p := ⟨g, i, none⟩) (.inl rfl) v) hS

theorem ropen_any (A : Option Addr) (n c : Nat) (l : List UInt8) (w : World) (hl : l.length = n) (hn : n ≤ 1000000000) (hr : Rd All w A (l.map bv)) :
    Calls Try.prog 73 #[.slice A n c] w fun r w' => ∃ (S : Nat → Prop) (g : Nat), r = .returned (.pointer (some ⟨g, 0, none⟩)) ∧ RdrAt S w' g (l, 0) ∧ (∀ k, S k ∨ k = g → w.heap.size ≤ k ∧ k < w'.heap.size) ∧ Mod Nil w w' := by
  have HR := Lib.hid hr
  have HL := Lib.hid hl
  clear hr hl
  go_enter Try.func73, Try.ntmps73
  go_wp2_with fail
  refine (clone_any _ A n c l _ HL.out (by omega) HR.out).mono ?_
  rintro r w1 ⟨v1, rfl, ho, hm⟩
  obtain ⟨A1, c1, rfl, hc1, hc2⟩ := own_slice ho
  have HO := Lib.hid ho
  have HM := Lib.hid hm
  clear ho hm
  go_wp2_with fail
  go_ret
  refine ⟨fun k => w.heap.size ≤ k ∧ k < w1.heap.size, _, rfl, ⟨A1, c1, ?_, ?_, hc2, ?_, fun h => by omega⟩, ?_, HM.out.alloc _⟩
  · show Blk _ _ _ #[.slice A1 l.length c1, .int .i64 0]
    rw [HL.out]
    exact Blk.new _ _ _
  · show l.length ≤ _; rw [HL.out]; exact hc1
  · exact ((Rd.of_own HO.out).mono (S' := fun k => w.heap.size ≤ k ∧ k < w1.heap.size) (fun b hb hB => ⟨hB, hb⟩)).keep0 ((Mod.refl Nil w1).alloc _)
  · intro k hk
    have := HM.out.size
    simp
    omega

theorem rerr_any (S : Nat → Prop) (g : Nat) (s : RSt) (w : World) (h : RdrAt S w g s) :
    Calls Try.prog 75 #[.pointer (some ⟨g, 0, none⟩)] w fun r w' => r = .returned (.int .i64 s.2) ∧ w = w' := by
  obtain ⟨A, c, h1, _, _, _, _⟩ := h
  have hc1 := h1.cell 1
  clear h1
  go_enter Try.func75, Try.ntmps75
  go_wp2_with fail
  go_ret
  exact ⟨rfl, rfl⟩

def rEnd (s : RSt) : Int := if s.2 = 0 ∧ 0 < s.1.length then 11 else s.2
theorem RdrAt.err {S : Nat → Prop} {g : Nat} {w : World} {s : RSt} (h : RdrAt S w g s) (e : Int) : RdrAt S (w.setCell ⟨g, 1, none⟩ (.int .i64 e)) g (s.1, e) := by
  obtain ⟨A, c, h1, h2, h3, h4, h5⟩ := h
  exact ⟨A, c, by simpa using h1.set_ 1 (.int .i64 e), h2, h3, rd_far h4 (fun k hk hkg => h5 (hkg ▸ hk)), h5⟩

theorem rfail_any (S : Nat → Prop) (g : Nat) (s : RSt) (e : Int) (w : World) (h : RdrAt S w g s) :
    Calls Try.prog 94 #[.pointer (some ⟨g, 0, none⟩), .int .i64 e] w (RdrPost S g w (if s.2 = 0 then (s.1, e) else s) (.returned (.tuple #[]))) := by
  have H := Lib.hid h
  obtain ⟨A, c, h1, hc, hm, _, _⟩ := h
  have hc1 := h1.cell 1
  have hf1 := h1.frozen 1
  have hgl := h1.lt
  clear h1
  by_cases he : s.2 = 0
  · rw [if_pos he]
    rw [he] at hc1
    clear he
    go_enter Try.func94, Try.ntmps94
    go_wp2_with fail
    go_end0
    exact ⟨rfl, H.out.err e, (Mod.refl (fun k => k = g) w).set (p := ⟨g, 1, none⟩) (.inl rfl) _⟩
  · rw [if_neg he]
    have he0 : (s.2 == 0) = false := by simp [he]
    have HE := Lib.hid he
    clear he
    go_enter Try.func94, Try.ntmps94
    go_wp2_with fail
    go_end0
    exact ⟨rfl, H.out, Mod.refl _ _⟩


set_option maxHeartbeats 1600000 in
set_option maxRecDepth 100000 in
theorem rget_any (S : Nat → Prop) (g : Nat) (s : RSt) (size : Nat) (w : World) (h : RdrAt S w g s) (hs : size ≤ 8) :
    Calls Try.prog 93 #[.pointer (some ⟨g, 0, none⟩), .int .i64 (size : Int)] w (RdrPost S g w (rGet size s).2.1 (.returned (.tuple #[.int .u64 ((rGet size s).1 : Nat), .bool (rGet size s).2.2]))) := by
  have H := Lib.hid h
  have HF := Lib.hid (rfail_any S g s 10 w h)
  obtain ⟨A, c, h1, hc, hm, hr, _⟩ := h
  have hc0 := h1.cell 0
  have hc1 := h1.cell 1
  have hgl := h1.lt
  have HR := Lib.hid hr
  unfold maxLen at hm
  clear h1 hr
  obtain ⟨l, e⟩ := s
  replace hc : l.length ≤ c := hc
  replace hc0 : w.cell? ⟨g, 0, none⟩ = some (.slice A l.length c) := hc0
  replace hc1 : w.cell? ⟨g, 1, none⟩ = some (.int .i64 e) := hc1
  by_cases he : e = 0
  · subst he
    by_cases hl : l.length < size
    · have HG := Lib.hid (show rGet size (l, 0) = (0, (l, 10), false) by simp [rGet, hl])
      rw [HG.out]
      go_enter Try.func93, Try.ntmps93
      go_wp2_with fail
      refine HF.out.mono ?_
      rintro r w1 ⟨rfl, hd, hm1⟩
      have HD := Lib.hid hd
      have HM := Lib.hid hm1
      clear hd hm1
      go_wp2_with fail
      go_ret2
      exact ⟨rfl, HD.out, HM.out⟩
    · have HG := Lib.hid (show rGet size (l, 0) = (beVal (l.take size), (l, 0), true) by simp [rGet, hl])
      rw [HG.out]
      have hlen : (l.take size).length = size := by rw [List.length_take]; omega
      have HT := Lib.hid (HR.out.take size)
      rw [← List.map_take] at HT
      have HLEN := Lib.hid hlen
      clear hlen
      go_enter Try.func93, Try.ntmps93
      go_wp2_with fail
      go_loop [6, 32] (fun n i => ∃ k : Nat, k ≤ size ∧ i = .int .i64 k ∧ n = .int .u64 (beVal ((l.take size).take k) : Nat)) (fun _ i => size - (intOf i).toNat)
      case atStart => exact ⟨0, Nat.zero_le _, rfl, rfl⟩
      case round =>
        obtain ⟨k, hk, rfl, rfl⟩ := hrel
        by_cases hlt : k < size
        · obtain ⟨x, hx⟩ : ∃ x, (l.take size)[k]? = some x := ⟨_, List.getElem?_eq_getElem (by rw [HLEN.out]; exact hlt)⟩
          obtain ⟨ad, rfl, _, _, hcl⟩ := HT.out.at_ (k := k) (u := bv x) (by rw [List.getElem?_map, hx]; rfl)
          unfold bv at hcl
          have HN := Lib.hid (show beVal ((l.take size).take (k + 1)) = beVal ((l.take size).take k) * 256 + x.toNat by rw [List.take_add_one, hx]; exact beVal_snoc _ _)
          obtain ⟨V, hV⟩ : ∃ V, V = beVal ((l.take size).take k) := ⟨_, rfl⟩
          have hVl : V < 72057594037927936 := by
            have := beVal_lt ((l.take size).take k)
            rw [← hV] at this
            have h2 : ((l.take size).take k).length ≤ 7 := by rw [List.length_take]; omega
            have h3 : (256 : Nat) ^ ((l.take size).take k).length ≤ 256 ^ 7 := Nat.pow_le_pow_right (by omega) h2
            omega
          rw [← hV] at HN ⊢
          clear hx hV
          go_wp2_with fail
          have HV := Lib.hid (u64_join8 V x hVl)
          go_round
          case rel => exact ⟨k + 1, by omega, by go_num, by rw [HV.out, HN.out]⟩
          case measure => simp [intOf] <;> omega
        · have hfin : (l.take size).take k = l.take size := List.take_of_length_le (by rw [HLEN.out]; omega)
          rw [hfin]
          clear hfin
          go_wp2_with fail
          go_ret2
          exact ⟨rfl, H.out, Mod.refl _ _⟩
  · have HG := Lib.hid (show rGet size (l, e) = (0, (l, e), false) by simp [rGet, he])
    have he0 : (e == 0) = false := by simp [he]
    rw [HG.out]
    simp only [if_neg he] at HF
    have HE := Lib.hid he
    clear he
    go_enter Try.func93, Try.ntmps93
    go_wp2_with fail
    refine HF.out.mono ?_
    rintro r w1 ⟨rfl, hd, hm1⟩
    have HD := Lib.hid hd
    have HM := Lib.hid hm1
    clear hd hm1
    go_wp2_with fail
    go_ret2
    exact ⟨rfl, HD.out, HM.out⟩


theorem RdrAt.drop_ {S : Nat → Prop} {g : Nat} {w : World} {l : List UInt8} {A : Option Addr} {c k : Nat} (h : Blk w g 136 #[.slice A l.length c, .int .i64 0]) (hc : l.length ≤ c) (hm : c ≤ maxLen) (hr : Rd S w A (l.map bv)) (hB : ¬ S g) (hk : k ≤ l.length)
    (A' : Option Addr) (c' : Nat) (hA : (c = k ∧ A' = A ∧ c' = 0) ∨ (c ≠ k ∧ A' = A.map (·.add k) ∧ c' = c - k)) :
    RdrAt S (w.setCell ⟨g, 0, none⟩ (.slice A' (l.length - k) c')) g (l.drop k, 0) := by
  have hA2 : A' = (if c = k then A else A.map (·.add k)) ∧ c' = c - k := by
    rcases hA with ⟨rfl, rfl, rfl⟩ | ⟨h, rfl, rfl⟩
    · exact ⟨by rw [if_pos rfl], by omega⟩
    · exact ⟨by rw [if_neg h], rfl⟩
  obtain ⟨rfl, rfl⟩ := hA2
  refine ⟨_, c - k, by simpa using h.set_ 0 _, by simp; omega, by omega, ?_, hB⟩
  have := rd_far (g := g) (i := 0) (v := .slice (if c = k then A else A.map (·.add k)) (l.length - k) (c - k)) hr (fun k hk hkg => hB (hkg ▸ hk))
  have h2 := this.cut (k := k) (cap := c) (by simpa using hk) (by simpa using hc)
  rw [← List.map_drop] at h2
  exact h2

set_option maxHeartbeats 1600000 in
set_option maxRecDepth 100000 in
theorem rnum_any (S : Nat → Prop) (g : Nat) (s : RSt) (w : World) (h : RdrAt S w g s) :
    Calls Try.prog 74 #[.pointer (some ⟨g, 0, none⟩)] w (RdrPost S g w (rNum s).2 (.returned (.int .i64 ((rNum s).1 : Nat)))) := by
  have HG := Lib.hid (rget_any S g s 4 w h (by omega))
  by_cases he : s.2 = 0
  · obtain ⟨l, e⟩ := s
    obtain rfl : e = 0 := he
    by_cases hl : l.length < 4
    · have HE := Lib.hid (show rNum (l, 0) = (0, (l, 10)) by simp [rNum, hl])
      rw [show rGet 4 (l, 0) = (0, (l, 10), false) by simp [rGet, hl]] at HG
      rw [HE.out]
      go_enter Try.func74, Try.ntmps74
      go_wp2_with fail
      refine HG.out.mono ?_
      rintro r w1 ⟨rfl, hd, hm1⟩
      have HD := Lib.hid hd
      have HM := Lib.hid hm1
      clear hd hm1
      go_wp2_with fail
      go_ret
      exact ⟨rfl, HD.out, HM.out⟩
    · rw [show rGet 4 (l, 0) = (beVal (l.take 4), (l, 0), true) by simp [rGet, hl]] at HG
      obtain ⟨V, hV⟩ : ∃ V, V = beVal (l.take 4) := ⟨_, rfl⟩
      have hVl : V < 4294967296 := by
        have := beVal_lt (l.take 4)
        rw [← hV] at this
        have h2 : (l.take 4).length ≤ 4 := by rw [List.length_take]; omega
        have h3 : (256 : Nat) ^ (l.take 4).length ≤ 256 ^ 4 := Nat.pow_le_pow_right (by omega) h2
        omega
      rw [← hV] at HG
      by_cases hv : 2147483647 < V
      · have HE := Lib.hid (show rNum (l, 0) = (0, (l, 11)) by simp [rNum, hl, ← hV, hv])
        rw [HE.out]
        clear hV
        go_enter Try.func74, Try.ntmps74
        go_wp2_with fail
        refine HG.out.mono ?_
        rintro r w1 ⟨rfl, hd, hm1⟩
        have HD := Lib.hid hd
        have HM := Lib.hid hm1
        clear hd hm1
        go_wp2_with fail
        refine (rfail_any S g (l, 0) 11 _ HD.out).mono ?_
        rintro r w2 ⟨rfl, hd, hm2⟩
        have HD2 := Lib.hid hd
        have HM2 := Lib.hid hm2
        clear hd hm2
        go_wp2_with fail
        go_ret
        exact ⟨rfl, HD2.out, HM.out.trans HM2.out⟩
      · have HE := Lib.hid (show rNum (l, 0) = (V, (l.drop 4, 0)) by simp [rNum, hl, ← hV, hv])
        rw [HE.out]
        clear hV
        go_enter Try.func74, Try.ntmps74
        go_wp2_with fail
        refine HG.out.mono ?_
        rintro r w1 ⟨rfl, hd, hm1⟩
        obtain ⟨A1, c1, h1, hc1, hm, hr1, hB⟩ := hd
        replace h1 : Blk w1 g 136 #[.slice A1 l.length c1, .int .i64 0] := h1
        replace hc1 : l.length ≤ c1 := hc1
        replace hr1 : Rd S w1 A1 (l.map bv) := hr1
        have hcell := h1.cell 0
        have hfr := h1.frozen 0
        have hgl := h1.lt
        have HD := Lib.hid (RdrAt.drop_ (k := 4) h1 hc1 hm hr1 hB (by omega))
        have HM := Lib.hid hm1
        unfold maxLen at hm
        clear h1 hr1 hm1
        go_wp2_with fail
        all_goals
          go_ret
          exact ⟨rfl, HD.out _ _ (by first | exact .inr ⟨by omega, rfl, rfl⟩ | exact .inl ⟨by omega, rfl, rfl⟩), HM.out.set (p := ⟨g, 0, none⟩) (.inl rfl) _⟩
  · rw [show rGet 4 s = (0, s, false) by simp [rGet, he]] at HG
    have HE := Lib.hid (show rNum s = (0, s) by simp [rNum, he])
    rw [HE.out]
    clear he
    go_enter Try.func74, Try.ntmps74
    go_wp2_with fail
    refine HG.out.mono ?_
    rintro r w1 ⟨rfl, hd, hm1⟩
    have HD := Lib.hid hd
    have HM := Lib.hid hm1
    clear hd hm1
    go_wp2_with fail
    go_ret
    exact ⟨rfl, HD.out, HM.out⟩

end Go.Proofs.Ytjmehamkpmimkaa
