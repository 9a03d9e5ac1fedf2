/- Contracts of Seal, Open and of their references. -/
import Derived.Test.YtjmehamkpmimkaaCrcW
import Derived.Test.YtjmehamkpmimkaaStr
import Derived.Test.YtjmehamkpmimkaaCrcR
import Derived.Deep.RegionWith
import Derived.BigRegion
import Derived.Lib.Strings
namespace Go.Proofs.Ytjmehamkpmimkaa
open Go.RowKit

def sealed (l : List UInt8) : List UInt8 := l ++ sumOctets (crcSum l)

set_option maxHeartbeats 800000 in
theorem seal_any (S : Nat → Prop) (A : Option Addr) (n c : Nat) (l : List UInt8) (w : World) (hn : l.length = n) (hbig : n ≤ 1000000000) (hr : Rd S w A (l.map bv)) :
    Calls Try.prog 77 #[.slice A n c] w fun e w' => ∃ v, e = .returned v ∧ w'.ownsRow w.heap.size 5 1 v (n + 4) ((sealed l).map bv) ∧ Mod Nil w w' := by
  obtain ⟨i0, hi, hz0, hz1, hz2⟩ := info_parts u8_info
  have HR := Lib.hid hr
  have HN := Lib.hid hn
  clear hr hn
  go_enter Try.func77, Try.ntmps77
  go_wp2_with fail
  refine (clone_any S A n c l _ HN.out (by omega) HR.out).mono ?_
  rintro e w1 ⟨v1, rfl, hown1, hm1⟩
  have HO1 := Lib.hid hown1
  have HM1 := Lib.hid hm1
  clear hown1 hm1
  go_wp2_with fail
  refine (sum_any All _ 1 1 [l] _ rfl (by simp) (parts_one (HR.out.keep0 HM1.out) HN.out (by simp [maxLen]; omega) (by simp))).mono ?_
  rintro e w2 ⟨rfl, rfl⟩
  go_wp2_with fail
  refine (octets_any _ _ (by have := crcSum_lt l; simpa using this)).mono ?_
  rintro e w3 ⟨v3, rfl, hown3, hm3⟩
  have hm03 : Mod Nil w1 w3 := ((Mod.refl _ _).alloc _).trans hm3
  have HO1' := Lib.hid (own_keep HO1.out hm03 (fun _ _ => id))
  have hs1 := HM1.out.size
  have hs3 := hm03.size
  obtain ⟨A3, c3, rfl, _, _⟩ := own_slice hown3
  have hR3 := Lib.hid (Rd.of_own hown3)
  go_wp2_with (at_builtin; refine wpList_append1 _ rfl _ _ 36 rfl w.heap.size 5 i0 (.int .u8 0) 1 Try.underlying36 hi hz0 hz1 hz2 rfl _ _ _ rfl HO1'.out _ A3 4 c3 _ rfl ?qc1 hR3.out (bv_one _) ?qc4 ?qc5 ?qc6 ?_)
  case qc1 => simp [sumOctets]
  case qc4 => omega
  case qc5 => simp only [maxLen]; omega
  case qc6 => omega
  intro v' w4 hown hgrow hat
  go_wp2
  go_ret
  refine ⟨v', rfl, by simpa [sealed] using hown, ?_⟩
  refine ((HM1.out.trans hm03).trans' (Mod.of_grown hgrow) (fun _ _ h => h) (fun i hi e => ?_))
  have := (HO1.out.lt i e).1
  omega

theorem beq_decide {α : Type} [BEq α] [LawfulBEq α] [DecidableEq α] (a b : α) : (a == b) = decide (a = b) := by
  by_cases h : a = b
  · rw [decide_eq_true h]; exact beq_iff_eq.2 h
  · rw [decide_eq_false h]; exact beq_eq_false_iff_ne.2 h

set_option maxHeartbeats 800000 in
theorem equal_any (S S' : Nat → Prop) (A B : Option Addr) (n c m d : Nat) (l k : List UInt8) (w : World) (hn : l.length = n) (hm : k.length = m) (hr : Rd S w A (l.map bv)) (hr' : Rd S' w B (k.map bv)) :
    Calls Try.prog 57 #[.slice A n c, .slice B m d] w fun e w' => e = .returned (.bool (decide (l = k))) ∧ w = w' := by
  have k1 := conv_bytes hr hn c
  have k2 := conv_bytes hr' hm d
  clear hr hr' hn hm
  go_enter Try.func57, Try.ntmps57
  go_wp2
  go_ret
  refine ⟨ret_bool ?_, rfl⟩
  rw [ByteArray.toList_eq, ByteArray.toList_eq, str_list, str_list]
  exact beq_decide l k

theorem tmod_small (a n : Int) (hn : 0 < n) : -n < a.tmod n ∧ a.tmod n < n := by
  have h1 := Int.tmod_lt_of_pos a hn
  have h2 := Int.lt_tmod_of_pos a hn
  omega
theorem tmod_rest (a n : Int) : (a.tmod n + n) % n = a % n := by
  rw [Int.add_emod_right, Int.tmod_def, Int.sub_mul_emod_self_left]

set_option maxHeartbeats 800000 in
theorem rest_any (a n : Int) (w : World) (hn : 0 < n) (hn' : n ≤ 1000000) :
    Calls Try.prog 13 #[.int .i64 a, .int .i64 n] w fun e w' => e = .returned (.int .i64 (a % n)) ∧ w = w' := by
  have h := tmod_small a n hn
  have h1 := h.1
  have h2 := h.2
  clear h
  have hz : (n == 0) = false := by simp; omega
  go_enter Try.func13, Try.ntmps13
  go_wp2
  go_ret
  exact ⟨ret_int (tmod_rest a n), rfl⟩

theorem sumOctets_cells (n : Nat) (h : n < 4294967296) : (sumOctets n).map bv = #[Value.int IntKind.u8 ((n : Int) % 256), Value.int IntKind.u8 ((n : Int) / 256 % 256), Value.int IntKind.u8 ((n : Int) / 65536 % 256), Value.int IntKind.u8 ((n : Int) / 16777216)].toList := by
  simp [sumOctets, bv]; omega

set_option maxHeartbeats 800000 in
set_option maxRecDepth 100000 in
theorem refSeal_any (s : ByteArray) (w : World) (hs : s.size ≤ 1000000000) :
    Calls Try.prog 82 #[.string s] w fun e w' => e = .returned (.string (str (sealed s.data.toList))) ∧ Mod Nil w w' := by
  have hlt := crcSum_lt s.data.toList
  obtain ⟨n, hn⟩ : ∃ n, n = crcSum s.data.toList := ⟨_, rfl⟩
  have hrd := Rd.cells w #[Value.int IntKind.u8 ((n : Int) % 256), Value.int IntKind.u8 ((n : Int) / 256 % 256), Value.int IntKind.u8 ((n : Int) / 65536 % 256), Value.int IntKind.u8 ((n : Int) / 16777216)] 5 (0, 0) rfl
  rw [← hn] at hlt
  rw [← sumOctets_cells n hlt] at hrd
  have kb := conv_bytes hrd (n := 4) rfl 4
  have hc := refSum_any s w (by unfold maxLen; omega)
  rw [← hn] at hc
  have HC := Lib.hid hc
  have HN := Lib.hid hn
  clear hc hn hrd
  have hsz : (str (sumOctets n)).size = 4 := rfl
  go_enter Try.func82, Try.ntmps82
  go_wp2_with fail
  refine HC.out.mono ?_
  rintro e w2 ⟨rfl, rfl⟩
  go_wp2_with fail
  go_ret
  refine ⟨?_, (Mod.refl _ _).alloc _⟩
  show Ending.returned (.string (s ++ str (sumOctets n))) = _
  rw [HN.out]
  conv => lhs; rw [← str_eta s, str_append]
  rfl

set_option maxHeartbeats 800000 in
set_option maxRecDepth 100000 in
theorem refOpen_any (s : ByteArray) (w : World) (hs : s.size ≤ 1000000000) :
    Calls Try.prog 83 #[.string s] w fun e w' => e = .returned (.tuple (if s.size < 4 then #[.string ⟨#[]⟩, .int .i64 10] else if sealed (s.data.toList.take (s.size - 4)) = s.data.toList then #[.string (str (s.data.toList.take (s.size - 4))), .int .i64 0] else #[.string ⟨#[]⟩, .int .i64 12])) ∧ Mod Nil w w' := by
  by_cases h4 : s.size < 4
  · rw [if_pos h4]
    go_enter Try.func83, Try.ntmps83
    go_wp2_with fail
    go_ret2
    exact ⟨rfl, Mod.refl _ _⟩
  · rw [if_neg h4]
    go_enter Try.func83, Try.ntmps83
    have hx : (s.extract 0 (s.size - 4)).data.toList = s.data.toList.take (s.size - 4) := by rw [Lib.extract_data]; simp
    have hxs : (s.extract 0 (s.size - 4)).size ≤ 1000000000 := by simp; omega
    have hc := refSeal_any (s.extract 0 (s.size - 4)) w hxs
    rw [hx] at hc
    have HC := Lib.hid hc
    have HX := Lib.hid hx
    clear hc hx hxs
    by_cases hsl : sealed (s.data.toList.take (s.size - 4)) = s.data.toList
    · have hb : ((str (sealed (s.data.toList.take (s.size - 4)))).toList == s.toList) = true := by
        rw [ByteArray.toList_eq, ByteArray.toList_eq, str_list]; exact beq_iff_eq.2 hsl
      rw [if_pos hsl]
      clear hsl
      go_wp2_with fail
      refine HC.out.mono ?_
      rintro e w1 ⟨rfl, hm⟩
      have HM := Lib.hid hm
      clear hm
      go_wp2_with fail
      go_ret2
      refine ⟨?_, HM.out⟩
      have h := HX.out
      show Ending.returned (.tuple #[.string (s.extract 0 (s.size - 4)), .int .i64 0]) = _
      rw [← h, str_eta]
    · have hb : ((str (sealed (s.data.toList.take (s.size - 4)))).toList == s.toList) = false := by
        rw [ByteArray.toList_eq, ByteArray.toList_eq, str_list]; exact beq_eq_false_iff_ne.2 hsl
      rw [if_neg hsl]
      clear hsl
      go_wp2_with fail
      refine HC.out.mono ?_
      rintro e w1 ⟨rfl, hm⟩
      have HM := Lib.hid hm
      clear hm
      go_wp2_with fail
      go_ret2
      exact ⟨rfl, HM.out⟩

set_option maxHeartbeats 800000 in
set_option maxRecDepth 100000 in
theorem open_short (A : Option Addr) (n c : Nat) (w : World) (hn : n < 4) :
    Calls Try.prog 81 #[.slice A n c] w fun e w' => e = .returned (.tuple #[.slice none 0 0, .int .i64 10]) ∧ w = w' := by
  go_enter Try.func81, Try.ntmps81
  go_wp2_with fail
  go_ret2
  exact ⟨rfl, rfl⟩

end Go.Proofs.Ytjmehamkpmimkaa
