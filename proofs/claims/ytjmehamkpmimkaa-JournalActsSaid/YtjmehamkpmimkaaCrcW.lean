/- Contracts of the library's functions on octets, and of package crc. -/
import Derived.Test.YtjmehamkpmimkaaBase
import Derived.WalkSpells
import Derived.Lib.SlBytesConst
namespace Go.Proofs.Ytjmehamkpmimkaa
open Go.RowKit

set_option maxHeartbeats 800000 in
theorem clone_any (S : Nat → Prop) (A : Option Addr) (n c : Nat) (l : List UInt8) (w : World) (hn : l.length = n) (hbig : n ≤ 140737488355328) (hr : Rd S w A (l.map bv)) :
    Calls Try.prog 70 #[.slice A n c] w fun e w' => ∃ v, e = .returned v ∧ w'.ownsRow w.heap.size 5 1 v n (l.map bv) ∧ Mod Nil w w' := by
  obtain ⟨i0, hi, hz0, hz1, hz2⟩ := info_parts u8_info
  have q22 : ∀ (w : World) (a : Option Addr) (n c n' c' : Nat), (binOp .eql 36 (.slice a n c) (.slice none n' c')).run Try.prog w = .ok (.bool a.isNone) w := fun w a n c n' c' => Lib.run_eql_slice_nil w _ _ a n c n' c' Try.underlying36
  have z5 : ∀ w, Sem.run Try.prog (Go.sizeOf 5) w = .ok 1 w := fun w => by simp [Go.sizeOf, typeInfo, hi, hz1]
  rcases A with _ | a
  · have hn0 : n = 0 := by
      rcases Nat.eq_zero_or_pos n with h0 | h0
      · exact h0
      · obtain ⟨_, h, _⟩ := hr (by simp; omega)
        cases h
    subst hn0
    have hl : l = [] := List.eq_nil_of_length_eq_zero hn
    subst hl
    clear hn hr
    go_enter Try.func70, Try.ntmps70
    go_wp2
    go_ret
    exact ⟨_, rfl, World.ownsRow_nil _ _ _ _, Mod.refl _ _⟩
  · have HR := Lib.hid hr
    have HN := Lib.hid hn
    clear hr hn
    go_enter Try.func70, Try.ntmps70
    go_wp2_with (at_builtin; refine wpList_append1 _ rfl _ _ 36 rfl w.heap.size 5 i0 (.int .u8 0) 1 Try.underlying36 hi hz0 hz1 hz2 rfl _ _ _ rfl (World.ownsRow_made w #[] 0 (Nat.le_refl _) (Nat.zero_le _) rfl) S (some a) n c (l.map bv) rfl ?qc1 ?qc2 ?qc3 ?qc4 ?qc5 ?qc6 ?_)
    case qc1 => simpa using HN.out
    case qc2 => exact HR.out.keep0 ((Mod.refl _ _).alloc _)
    case qc3 => exact bv_one l
    case qc4 => omega
    case qc5 => simp only [maxLen]; omega
    case qc6 => simp
    intro v' w1 hown hgrow hat
    go_wp2
    go_ret
    exact ⟨v', rfl, by simpa using hown, ((Mod.refl Nil w).alloc _).trans' (Mod.of_grown hgrow) (fun _ _ h => h) (fun i hi e => by simp [Value.ownBlock] at e; omega)⟩

/-- The octets of a sum. -/
def sumOctets (n : Nat) : List UInt8 := [UInt8.ofNat n, UInt8.ofNat (n / 256), UInt8.ofNat (n / 65536), UInt8.ofNat (n / 16777216)]

set_option maxHeartbeats 800000 in
theorem octets_any (n : Nat) (w : World) (hn : n < 4294967296) :
    Calls Try.prog 96 #[.int .u32 (n : Int)] w fun e w' => ∃ v, e = .returned v ∧ w'.ownsRow w.heap.size 5 1 v 4 ((sumOctets n).map bv) ∧ Mod Nil w w' := by
  go_enter Try.func96, Try.ntmps96
  go_wp2
  go_ret
  refine ⟨_, rfl, ?_, (Mod.refl _ _).alloc _⟩
  have h := World.ownsRow_lit (base := w.heap.size) (e := 5) (size := 1) w #[Value.int IntKind.u8 ((n : Int) % 256), Value.int IntKind.u8 ((n : Int) / 256 % 256), Value.int IntKind.u8 ((n : Int) / 65536 % 256), Value.int IntKind.u8 ((n : Int) / 16777216)] 4 (Nat.le_refl _) (by simp [maxLen]) rfl
  have e : (sumOctets n).map bv = #[Value.int IntKind.u8 ((n : Int) % 256), Value.int IntKind.u8 ((n : Int) / 256 % 256), Value.int IntKind.u8 ((n : Int) / 65536 % 256), Value.int IntKind.u8 ((n : Int) / 16777216)].toList := by
    simp [sumOctets, bv]; omega
  rw [e]
  exact h


/-! ### Sum -/
theorem nat_not32 {z : Nat} (h : z < 4294967296) : 4294967295 ^^^ z = 4294967295 - z := by
  have e := congrArg BitVec.toNat (BitVec.allOnes_xor (x := BitVec.ofNat 32 z))
  rw [BitVec.toNat_xor, BitVec.toNat_not, BitVec.toNat_allOnes, BitVec.toNat_ofNat, Nat.mod_eq_of_lt (by omega)] at e
  simpa using e
theorem u32_not {z : Nat} (h : z < 4294967296) : bits .xor .u32 IntKind.u32.max (z : Int) = ((4294967295 - z : Nat) : Int) := by
  rw [← nat_not32 h]
  exact u32_xor_nat 4294967295 z (by omega) h
/-- One bit of a sum, as the code turns it. -/
def crcBit (r : Nat) : Nat := if r % 2 = 1 then (r / 2) ^^^ 3988292384 else r / 2
def crcBits : Nat → Nat → Nat
  | 0, r => r
  | k + 1, r => crcBits k (crcBit r)
def crcByte (r : Nat) (c : UInt8) : Nat := crcBits 8 (r ^^^ c.toNat)
def crcFold (l : List UInt8) (r : Nat) : Nat := l.foldl crcByte r
def crcSum (l : List UInt8) : Nat := 4294967295 - crcFold l 4294967295

theorem crcBit_lt {r : Nat} (h : r < 4294967296) : crcBit r < 4294967296 := by
  unfold crcBit
  split
  · exact Nat.xor_lt_two_pow (n := 32) (by omega) (by omega)
  · omega
theorem crcBits_lt (k : Nat) : ∀ {r : Nat}, r < 4294967296 → crcBits k r < 4294967296 := by
  induction k with
  | zero => exact fun h => h
  | succ k ih => exact fun h => ih (crcBit_lt h)
theorem crcBits_succ (k : Nat) : ∀ r, crcBits (k + 1) r = crcBit (crcBits k r) := by
  induction k with
  | zero => exact fun _ => rfl
  | succ k ih => exact fun r => ih (crcBit r)
theorem crcFold_snoc (l : List UInt8) (c : UInt8) (r : Nat) : crcFold (l ++ [c]) r = crcByte (crcFold l r) c := by simp [crcFold]
theorem crcFold_append (l m : List UInt8) (r : Nat) : crcFold (l ++ m) r = crcFold m (crcFold l r) := by simp [crcFold]
theorem crcByte_lt {r : Nat} (c : UInt8) (h : r < 4294967296) : crcByte r c < 4294967296 :=
  crcBits_lt 8 (Nat.xor_lt_two_pow (n := 32) (by omega) (by have := c.toNat_lt; omega))
theorem crcFold_lt (l : List UInt8) : ∀ {r : Nat}, r < 4294967296 → crcFold l r < 4294967296 := by
  induction l with
  | nil => exact fun h => h
  | cons c l ih => exact fun h => ih (crcByte_lt c h)
theorem crcSum_lt (l : List UInt8) : crcSum l < 4294967296 := by unfold crcSum; omega

/-- The bytes are handed over in parts; each part is one of a slice of slices. -/
def Parts (S : Nat → Prop) (w : World) (A : Option Addr) (ps : List (List UInt8)) : Prop :=
  ∃ vs : List Value, Rd S w A vs ∧ vs.length = ps.length ∧ ∀ (i : Nat) (p : List UInt8), ps[i]? = some p → ∃ B c, vs[i]? = some (Value.slice B p.length c) ∧ p.length ≤ maxLen ∧ Rd S w B (p.map bv)

set_option maxHeartbeats 1600000 in
theorem sum_any (S : Nat → Prop) (A : Option Addr) (n c : Nat) (ps : List (List UInt8)) (w : World) (hn : ps.length = n) (hbig : n ≤ 1000000) (hr : Parts S w A ps) :
    Calls Try.prog 48 #[.slice A n c] w fun e w' => e = .returned (.int .u32 (crcSum ps.flatten : Nat)) ∧ w = w' := by
  obtain ⟨vs, hA, hvl, hvs⟩ := hr
  go_enter Try.func48, Try.ntmps48
  go_wp2
  go_loop [3, 10] (fun r i => ∃ k : Nat, k ≤ n ∧ i = .int .i64 k ∧ r = .int .u32 (crcFold (ps.take k).flatten 4294967295 : Nat)) (fun _ i => n - (intOf i).toNat)
  case atStart => exact ⟨0, Nat.zero_le _, rfl, rfl⟩
  case round =>
    obtain ⟨k, hk, rfl, rfl⟩ := hrel
    by_cases hlt : k < n
    · obtain ⟨p, hp⟩ : ∃ p, ps[k]? = some p := ⟨ps[k]'(by omega), List.getElem?_eq_getElem (by omega)⟩
      obtain ⟨B, cB, hB, hpl, hRB⟩ := hvs k p hp
      obtain ⟨ad, rfl, _, _, hcell⟩ := hA.at_ hB
      obtain ⟨R, hR⟩ : ∃ R, R = crcFold (List.take k ps).flatten 4294967295 := ⟨_, rfl⟩
      have hRlt : R < 4294967296 := by rw [hR]; exact crcFold_lt _ (by omega)
      have HR := Lib.hid hR
      rw [← hR]
      clear hR
      have HP := Lib.hid hp
      clear hp hvs hA hB
      unfold maxLen at hpl
      go_wp2
      go_loop [3, 16] (fun r i => ∃ j : Nat, j ≤ p.length ∧ i = .int .i64 j ∧ r = .int .u32 (crcFold (p.take j) R : Nat)) (fun _ i => p.length - (intOf i).toNat)
      case atStart => exact ⟨0, Nat.zero_le _, rfl, rfl⟩
      case round =>
        obtain ⟨j, hj, rfl, rfl⟩ := hrel
        by_cases hjl : j < p.length
        · have hcb : (p.map bv)[j]? = some (.int .u8 (p[j].toNat : Int)) := by simp [bv, List.getElem?_map, List.getElem?_eq_getElem hjl]
          obtain ⟨bd, rfl, _, _, hbc⟩ := hRB.at_ hcb
          obtain ⟨R1, hR1⟩ : ∃ R1, R1 = crcFold (List.take j p) R := ⟨_, rfl⟩
          have hR1lt : R1 < 4294967296 := by rw [hR1]; exact crcFold_lt _ hRlt
          have HR1 := Lib.hid hR1
          rw [← hR1]
          clear hR1 hcb
          obtain ⟨ch, hch⟩ : ∃ ch : UInt8, ch = p[j] := ⟨_, rfl⟩
          have HC := Lib.hid hch
          rw [← hch] at hbc
          clear hch
          have hc256 := ch.toNat_lt
          have hx : bits .xor .u32 (R1 : Int) (ch.toNat : Int) = ((R1 ^^^ ch.toNat : Nat) : Int) := u32_xor_nat _ _ hR1lt (by omega)
          obtain ⟨X0, hX0⟩ : ∃ X0, X0 = R1 ^^^ ch.toNat := ⟨_, rfl⟩
          have hX0lt : X0 < 4294967296 := by rw [hX0]; exact Nat.xor_lt_two_pow (n := 32) (by omega) (by omega)
          rw [← hX0] at hx
          have HX0 := Lib.hid hX0
          clear hX0
          go_wp2
          go_loop [3, 24] (fun r i => ∃ m : Nat, m ≤ 8 ∧ i = .int .i64 m ∧ r = .int .u32 (crcBits m X0 : Nat)) (fun _ i => 8 - (intOf i).toNat)
          case atStart => exact ⟨0, Nat.zero_le _, rfl, rfl⟩
          case round =>
            obtain ⟨m, hm, rfl, rfl⟩ := hrel
            by_cases hm8 : m < 8
            · obtain ⟨Y, hY⟩ : ∃ Y, Y = crcBits m X0 := ⟨_, rfl⟩
              have hYlt : Y < 4294967296 := by rw [hY]; exact crcBits_lt _ hX0lt
              rw [← hY]
              have hs := crcBits_succ m X0
              rw [← hY] at hs
              have HS := Lib.hid hs
              clear hs hY
              have hb : bits .and .u32 (Y : Int) 1 = ((Y % 2 : Nat) : Int) := by rw [show (1 : Int) = ((1 : Nat) : Int) from rfl, u32_and_nat _ _ hYlt (by omega), nat_mask1]
              have hp : bits .xor .u32 ((Y : Int) / 2) 3988292384 = ((Y / 2 ^^^ 3988292384 : Nat) : Int) := u32_xor_nat (Y / 2) 3988292384 (by omega) (by omega)
              by_cases hodd : Y % 2 = 1
              · have ht : (((Y % 2 : Nat) : Int) == 1) = true := by rw [hodd]; rfl
                have HO := Lib.hid hodd
                clear hodd
                go_wp2
                go_round
                case rel => exact ⟨m + 1, by omega, by go_num, by rw [HS.out]; unfold crcBit; rw [if_pos HO.out]⟩
                case measure => simp [intOf]; omega
              · have ht : (((Y % 2 : Nat) : Int) == 1) = false := by simp; omega
                have HO := Lib.hid hodd
                clear hodd
                go_wp2
                go_round
                case rel => exact ⟨m + 1, by omega, by go_num, by rw [HS.out]; unfold crcBit; rw [if_neg HO.out]; rfl⟩
                case measure => simp [intOf]; omega
            · have : m = 8 := by omega
              subst this
              go_wp2
              go_round
              case rel =>
                refine ⟨j + 1, by omega, by go_num, ?_⟩
                rw [List.take_succ_eq_append_getElem hjl, crcFold_snoc, ← HR1.out, ← HC.out, crcByte, ← HX0.out]
              case measure => simp [intOf]; omega
        · go_wp2
          go_round
          case rel =>
            refine ⟨k + 1, by omega, by go_num, ?_⟩
            have hpk : ps[k]'(by omega) = p := (List.getElem?_eq_some_iff.1 HP.out).2
            rw [List.take_succ_eq_append_getElem (by omega), List.flatten_append, hpk, crcFold_append, ← HR.out, List.take_of_length_le (by omega)]
            simp
          case measure => simp [intOf]; omega
    · have hfin : crcFold (ps.take k).flatten 4294967295 = crcFold ps.flatten 4294967295 := by rw [List.take_of_length_le (by omega)]
      have hflt := crcFold_lt ps.flatten (r := 4294967295) (by omega)
      rw [hfin]
      obtain ⟨Z, hZ⟩ : ∃ Z, Z = crcFold ps.flatten 4294967295 := ⟨_, rfl⟩
      rw [← hZ] at hflt ⊢
      have HZ := Lib.hid hZ
      clear hZ hfin
      go_wp2
      go_ret
      refine ⟨ret_int ?_, rfl⟩
      rw [u32_not hflt, HZ.out]
      rfl

/-! ### calls of Sum -/
theorem Rd.cells (w : World) (cs : Array Value) (t : TypeId) (fr : Nat × Nat) {g : Nat} (hg : g = w.heap.size) : Rd All (w.alloc (.cells cs t fr)) (some ⟨g, 0, none⟩) cs.toList := fun _ => by
  subst hg
  exact ⟨_, rfl, trivial, by simp, World.news_of_block (heap_alloc_new w (.cells cs t fr))⟩

theorem parts_nil (S : Nat → Prop) (w : World) (A : Option Addr) : Parts S w A [] := ⟨[], Rd.nil _ _ _, rfl, fun i p h => by simp at h⟩

theorem parts_one {S : Nat → Prop} {w : World} {A : Option Addr} {l : List UInt8} {n c : Nat} {t : TypeId} (h : Rd S w A (l.map bv)) (hn : l.length = n) (hl : n ≤ maxLen) {g : Nat} (hg : g = w.heap.size) :
    Parts All (w.alloc (.cells #[.slice A n c] t)) (some ⟨g, 0, none⟩) [l] := by
  subst hn
  refine ⟨[.slice A l.length c], Rd.cells w #[.slice A l.length c] t (0, 0) hg, rfl, fun i p hp => ?_⟩
  match i, hp with
  | 0, hp =>
    obtain rfl : l = p := by simpa using hp
    exact ⟨A, c, rfl, hl, (h.mono (fun _ _ _ => trivial)).keep0 ((Mod.refl _ _).alloc _)⟩

theorem parts_two {S : Nat → Prop} {w : World} {A B : Option Addr} {l m : List UInt8} {n c k d : Nat} {t : TypeId} (h : Rd S w A (l.map bv)) (h' : Rd S w B (m.map bv)) (hn : l.length = n) (hk : m.length = k) (hl : n ≤ maxLen) (hl' : k ≤ maxLen) {g : Nat} (hg : g = w.heap.size) :
    Parts All (w.alloc (.cells #[.slice A n c, .slice B k d] t)) (some ⟨g, 0, none⟩) [l, m] := by
  subst hn hk
  refine ⟨[.slice A l.length c, .slice B m.length d], Rd.cells w #[.slice A l.length c, .slice B m.length d] t (0, 0) hg, rfl, fun i p hp => ?_⟩
  match i, hp with
  | 0, hp =>
    obtain rfl : l = p := by simpa using hp
    exact ⟨A, c, rfl, hl, (h.mono (fun _ _ _ => trivial)).keep0 ((Mod.refl _ _).alloc _)⟩
  | 1, hp =>
    obtain rfl : m = p := by simpa using hp
    exact ⟨B, d, rfl, hl', (h'.mono (fun _ _ _ => trivial)).keep0 ((Mod.refl _ _).alloc _)⟩

theorem Parts.keep0 {S : Nat → Prop} {w w' : World} {A : Option Addr} {ps : List (List UInt8)} (h : Parts S w A ps) (hm : Mod Nil w w') : Parts S w' A ps := by
  obtain ⟨vs, h1, h2, h3⟩ := h
  refine ⟨vs, h1.keep0 hm, h2, fun i p hp => ?_⟩
  obtain ⟨B, c, h4, h5, h6⟩ := h3 i p hp
  exact ⟨B, c, h4, h5, h6.keep0 hm⟩
/-- Parts, as a value. -/
def IsParts (ps : List (List UInt8)) (v : Value) (w : World) : Prop := ∃ A c, v = .slice A ps.length c ∧ Parts All w A ps
theorem IsParts.keep0 {ps : List (List UInt8)} {v : Value} {w w' : World} (h : IsParts ps v w) (hm : Mod Nil w w') : IsParts ps v w' := by
  obtain ⟨A, c, h1, h2⟩ := h
  exact ⟨A, c, h1, h2.keep0 hm⟩

theorem crc_example : crcSum [49, 50, 51, 52, 53, 54, 55, 56, 57] = 3421780262 := by decide +kernel

end Go.Proofs.Ytjmehamkpmimkaa
