/- Contracts of the document's journal: area, fits, Form, Head, lay, both, home. -/
import Derived.Test.YtjmehamkpmimkaaJrnAw
import Derived.Test.YtjmehamkpmimkaaRrdW
namespace Go.Proofs.Ytjmehamkpmimkaa
open Go.RowKit

/-- What a disk's size is. -/
def Szd (s : DSt) : Prop := 1 ≤ s.secs ∧ s.secs ≤ 65536 ∧ s.S.length = 64 * s.secs ∧ DOk s
theorem Szd.to {s s' : DSt} (h : Szd s) (hl : s'.S.length = s.S.length) (hd : DOk s') : Szd s' := by
  have e : s'.secs = s.secs := by unfold DSt.secs; rw [hl]
  exact ⟨e ▸ h.1, e ▸ h.2.1, by rw [hl, e]; exact h.2.2.1, hd⟩

theorem RdkAt.cell0 {B g : Nat} {F : Nat → Prop} {s : DSt} {w : World} (h : RdkAt B w g F s) : w.cell? ⟨g, 0, none⟩ = some (.string (str s.S)) := by
  obtain ⟨vw, _, h⟩ := h
  exact h.blk.cell 0

set_option maxHeartbeats 1600000 in
set_option maxRecDepth 100000 in
theorem rarea_any (B g : Nat) (F : Nat → Prop) (s : DSt) (w : World) (h : RdkAt B w g F s) (hz : Szd s) :
    Calls Try.prog 60 #[.pointer (some ⟨g, 0, none⟩)] w fun r w' => r = .returned (.int .i64 (jA s.secs : Nat)) ∧ w = w' := by
  have hc0 := h.cell0
  have hs := str_size s.S
  obtain ⟨M, hM⟩ : ∃ M, M = s.secs := ⟨_, rfl⟩
  obtain ⟨h1, h2, h3, _⟩ := hz
  rw [← hM] at h1 h2 h3 ⊢
  have hj : jA M ≤ 32767 := by unfold jA; omega
  obtain ⟨N, hN⟩ : ∃ N, N = s.S.length := ⟨_, rfl⟩
  rw [← hN] at hs h3
  have ht1 : Int.tdiv (N : Int) 64 = (M : Int) := by rw [Int.tdiv_eq_ediv_of_nonneg (by omega)]; omega
  have ht : Int.tdiv ((M : Int) - 2) 2 = ((jA M : Nat) : Int) := by
    unfold jA
    rcases Nat.lt_or_ge M 2 with h | h
    · obtain rfl : M = 1 := by omega
      rfl
    · rw [Int.tdiv_eq_ediv_of_nonneg (by omega)]
      omega
  have H3 := Lib.hid h3
  have hN9 : N ≤ 4194304 := by omega
  clear h hN hM h3
  go_enter Try.func60, Try.ntmps60
  go_wp2_with fail
  go_ret
  first
    | exact ⟨rfl, rfl⟩
    | exact ⟨ret_int ht, rfl⟩

set_option maxHeartbeats 1600000 in
set_option maxRecDepth 100000 in
theorem rfits_any (B g : Nat) (F : Nat → Prop) (s : DSt) (t : List UInt8) (w : World) (h : RdkAt B w g F s) (hz : Szd s) :
    Calls Try.prog 58 #[.pointer (some ⟨g, 0, none⟩), .string (str t)] w fun r w' => r = .returned (.int .i64 (jFits s t)) ∧ w = w' := by
  have hc0 := h.cell0
  have hs := str_size s.S
  have hst := str_size t
  obtain ⟨M, hM⟩ : ∃ M, M = s.secs := ⟨_, rfl⟩
  obtain ⟨h1, h2, h3, _⟩ := hz
  rw [← hM] at h1 h2 h3
  obtain ⟨N, hN⟩ : ∃ N, N = s.S.length := ⟨_, rfl⟩
  rw [← hN] at hs h3
  have ht1 : Int.tdiv (N : Int) 64 = (M : Int) := by rw [Int.tdiv_eq_ediv_of_nonneg (by omega)]; omega
  have hN9 : N ≤ 4194304 := by omega
  obtain ⟨T, hT⟩ : ∃ T, T = t.length := ⟨_, rfl⟩
  rw [← hT] at hst
  obtain ⟨R, hR⟩ : ∃ R, R = jRoom s.secs := ⟨_, rfl⟩
  have HC := Lib.hid (fun w => refRoom4_any (M : Int) w)
  rw [hM, ← hR, ← hM] at HC
  have H3 := Lib.hid h3
  by_cases g1 : R < 0
  · have HE := Lib.hid (show jFits s t = 2 by unfold jFits; rw [← hR, if_pos g1])
    clear h hN hM h3 hR hT
    go_enter Try.func58, Try.ntmps58
    go_wp2_with fail
    refine (HC.out _).mono ?_
    rintro r w1 ⟨rfl, rfl⟩
    go_wp2_with fail
    go_ret
    exact ⟨ret_int HE.out.symm, rfl⟩
  · by_cases g2 : R < (T : Int)
    · have HE := Lib.hid (show jFits s t = 21 by unfold jFits; rw [← hR, if_neg g1, ← hT, if_pos g2])
      clear h hN hM h3 hR hT
      go_enter Try.func58, Try.ntmps58
      go_wp2_with fail
      refine (HC.out _).mono ?_
      rintro r w1 ⟨rfl, rfl⟩
      go_wp2_with fail
      go_ret
      exact ⟨ret_int HE.out.symm, rfl⟩
    · have HE := Lib.hid (show jFits s t = 0 by unfold jFits; rw [← hR, if_neg g1, ← hT, if_neg g2])
      clear h hN hM h3 hR hT
      go_enter Try.func58, Try.ntmps58
      go_wp2_with fail
      refine (HC.out _).mono ?_
      rintro r w1 ⟨rfl, rfl⟩
      go_wp2_with fail
      go_ret
      exact ⟨ret_int HE.out.symm, rfl⟩

theorem encNum_be (n : Nat) (h : n ≤ 2147483647) : encNum (n : Int) = beBytes 4 n := by
  unfold encNum
  rw [if_neg (by omega)]
  rfl

set_option maxHeartbeats 1600000 in
set_option maxRecDepth 100000 in
theorem rform_any (t : List UInt8) (a : Nat) (w : World) (ht : 4 + t.length ≤ 64 * a) (ha : a ≤ 32767) :
    Calls Try.prog 59 #[.string (str t), .int .i64 (a : Int)] w fun r w' => r = .returned (.string (str (jArea a t))) ∧ Mod Nil w w' := by
  have hst := str_size t
  obtain ⟨T, hT⟩ : ∃ T, T = t.length := ⟨_, rfl⟩
  rw [← hT] at hst ht
  have HC := Lib.hid (refNum_any (T : Int) w)
  rw [encNum_be T (by omega)] at HC
  have h1 : str (beBytes 4 T) ++ str t = str (beBytes 4 T ++ t) := str_append _ _
  have h2 : (str (beBytes 4 T ++ t)).size = 4 + T := by rw [str_size, List.length_append, beBytes_len, hT]
  have h0 : (str (beBytes 4 T)).size = 4 := by rw [str_size, beBytes_len]
  obtain ⟨Z, hZ⟩ : ∃ Z, Z = 64 * a - (4 + T) := ⟨_, rfl⟩
  have hw1 : IntKind.i64.wrap (64 * (a : Int)) = 64 * (a : Int) := IntWalk.i64_in _ (by omega)
  have hw2 : 64 * (a : Int) - (4 + (T : Int)) = (Z : Int) := by omega
  have h3 : str (beBytes 4 T ++ t) ++ str (List.replicate Z 0) = str (jArea a t) := by rw [str_append]; unfold jArea; rw [← hT, ← hZ]
  have h4 : (str (List.replicate Z (0 : UInt8))).size = Z := by rw [str_size]; simp
  have hZl : Z ≤ 3000000 := by omega
  have HZ := Lib.hid hZ
  have H3 := Lib.hid h3
  have HT := Lib.hid hT
  clear hT hZ h3
  go_enter Try.func59, Try.ntmps59
  go_wp2_with fail
  refine HC.out.mono ?_
  rintro r w1 ⟨rfl, hm⟩
  have HM := Lib.hid hm
  clear hm
  go_wp2_with fail
  refine (noughts_any Z _ (by omega)).mono ?_
  rintro r w2 ⟨rfl, hm2⟩
  have HM2 := Lib.hid (HM.out.trans hm2)
  clear hm2 hw2
  go_wp2_with fail
  go_ret
  refine ⟨?_, HM2.out⟩
  show Ending.returned (.string (str (beBytes 4 T ++ t) ++ str (List.replicate Z 0))) = _
  rw [H3.out]

set_option maxHeartbeats 1600000 in
set_option maxRecDepth 100000 in
theorem rhead_any (kv : Int) (n x : Nat) (w : World) (hkv : kv = n) (hn : n ≤ 1) (hx : x < 4294967296) :
    Calls Try.prog 62 #[.int .i64 kv, .int .u32 (x : Int)] w fun r w' => r = .returned (.string (str (jMark n x))) ∧ Mod Nil w w' := by
  subst hkv
  obtain ⟨Z, hZ⟩ : ∃ Z, Z = List.replicate 48 (0 : UInt8) := ⟨_, rfl⟩
  have HN := Lib.hid (fun w => noughts_any 48 w (by omega))
  rw [← hZ] at HN
  have hZl : Z.length = 48 := by rw [hZ]; rfl
  obtain ⟨P, hP⟩ : ∃ P, P = beBytes 4 1297043028 := ⟨_, rfl⟩
  obtain ⟨Q, hQ⟩ : ∃ Q, Q = beBytes 4 n := ⟨_, rfl⟩
  obtain ⟨X, hX⟩ : ∃ X, X = sumOctets x := ⟨_, rfl⟩
  obtain ⟨A, hA⟩ : ∃ A, A = P ++ Q := ⟨_, rfl⟩
  obtain ⟨C, hC⟩ : ∃ C, C = A ++ X := ⟨_, rfl⟩
  obtain ⟨D, hD⟩ : ∃ D, D = C ++ Z := ⟨_, rfl⟩
  have lP : P.length = 4 := by rw [hP, beBytes_len]
  have lQ : Q.length = 4 := by rw [hQ, beBytes_len]
  have lX : X.length = 4 := by rw [hX, sumOctets_len]
  have lA : A.length = 8 := by rw [hA, List.length_append, lP, lQ]
  have lC : C.length = 12 := by rw [hC, List.length_append, lA, lX]
  have lD : D.length = 60 := by rw [hD, List.length_append, lC, hZl]
  have HJ := Lib.hid (show jMark n x = sealed D by rw [hD, hC, hA, hP, hQ, hX, hZ]; rfl)
  have HC := Lib.hid (fun w => refNum_any ((1297043028 : Nat) : Int) w)
  have HC2 := Lib.hid (fun w => refNum_any (n : Int) w)
  rw [encNum_be 1297043028 (by omega), ← hP] at HC
  rw [encNum_be n (by omega), ← hQ] at HC2
  have h1 : str P ++ str Q = str A := by rw [str_append, hA]
  have h2 : str A ++ str X = str C := by rw [str_append, hC]
  have h3 : str C ++ str Z = str D := by rw [str_append, hD]
  have z0 : (str P).size = 4 := by rw [str_size, lP]
  have z1 : (str Q).size = 4 := by rw [str_size, lQ]
  have z2 : (str A).size = 8 := by rw [str_size, lA]
  have z3 : (str X).size = 4 := by rw [str_size, lX]
  have z4 : (str C).size = 12 := by rw [str_size, lC]
  have z5 : (str Z).size = 48 := by rw [str_size, hZl]
  have z6 : (str D).size = 60 := by rw [str_size, lD]
  have HXE := Lib.hid (show sumOctets x = X from hX.symm)
  have HXL := Lib.hid lX
  have HSE := Lib.hid (fun w => refSeal_any (str D) w (by rw [z6]; decide))
  rw [show (str D).data.toList = D from str_list D] at HSE
  clear hP hQ hX hA hC hD hZ lP lQ lX lA lC lD hZl
  have HX := Lib.hid hx
  go_enter Try.func62, Try.ntmps62
  go_wp2_with fail
  refine (HC.out _).mono ?_
  rintro r w1 ⟨rfl, hm⟩
  have HM := Lib.hid hm
  clear hm
  go_wp2_with fail
  refine (HC2.out _).mono ?_
  rintro r w2 ⟨rfl, hm2⟩
  have HM2 := Lib.hid (HM.out.trans hm2)
  have hrd := Rd.cells w2 #[Value.int IntKind.u8 ((x : Int) % 256), Value.int IntKind.u8 ((x : Int) / 256 % 256), Value.int IntKind.u8 ((x : Int) / 65536 % 256), Value.int IntKind.u8 ((x : Int) / 16777216)] 5 (0, 0) rfl
  rw [← sumOctets_cells x hx, HXE.out] at hrd
  have kb := conv_bytes hrd (n := 4) HXL.out 4
  clear hm2 hrd
  go_wp2_with fail
  refine (HN.out _).mono ?_
  rintro r w3 ⟨rfl, hm3⟩
  have HM3 := Lib.hid ((HM2.out.alloc _).trans hm3)
  clear hm3 kb
  go_wp2_with fail
  refine (HSE.out _).mono ?_
  rintro r w4 ⟨rfl, hm4⟩
  have HM4 := Lib.hid (HM3.out.trans hm4)
  clear hm4
  go_wp2_with fail
  go_ret
  rw [HJ.out]
  exact ⟨rfl, HM4.out⟩

end Go.Proofs.Ytjmehamkpmimkaa
