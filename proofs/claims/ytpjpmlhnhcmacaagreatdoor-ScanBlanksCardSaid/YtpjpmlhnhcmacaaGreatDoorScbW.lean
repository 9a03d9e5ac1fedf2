/- The law ScanBlanks, walked. -/
import Derived.Test.YtpjpmlhnhcmacaaGreatDoorSclW
import Derived.Test.YtpjpmlhnhcmacaaGreatDoorScbP
namespace Go.Proofs.YtpjpmlhnhcmacaaGreatDoor
open Go.RowKit

noncomputable def scbBody : Code := (Tryz.f4.body).getD .skip

def ScbI (r : List UInt8) (s : Value) (w0 : World) (ac : Act) (w : World) : Prop :=
  ∃ i : Nat, Sl 108 [(0, s), (1, .string (str r)), (5, .int .i64 (i : Nat))] ac ∧ w = w0 ∧ i ≤ r.length ∧ ∀ j c, j < i → r[j]? = some c → c ≠ 34

set_option maxHeartbeats 3200000 in
set_option maxRecDepth 100000 in
/-- Is there a quote in the remark? -/
theorem scb_rem {Q : Exit → Act → World → Prop} {ac : Act} {w : World} {r : List UInt8} {s : Value} (hl : r.length ≤ 100)
    (HF : Sl 108 [(0, s), (1, .string (str r))] ac)
    (hQ0 : ∀ ac', Sl 108 [(4, .bool true)] ac' → Q .ret ac' w)
    (hQ1 : (∀ c ∈ r, c ≠ 34) → ∀ ac', Sl 108 [(0, s), (1, .string (str r))] ac' → Q .normal ac' w) :
    (part [1, 1, 0] scbBody).wp Tryz.prog Q ac w := by
  have HQ0 := Lib.hid hQ0
  have HQ1 := Lib.hid hQ1
  have hsz := str_size r
  clear hQ0 hQ1
  conv => arg 2; whnf
  refine wp_seq (wp_region_lit ?_)
  refine sl_const HF rfl rfl (.inr rfl) (by decide) ?_; clear HF; intro _ HF
  refine sl_nil (wp_block (wp_loop (ScbI r s w) (fun ac _ => r.length - (intOf (ac.eval (.tmp 5))).toNat) ?_ ?_))
  · exact ⟨0, HF.keep [0, 1, 5], rfl, Nat.zero_le _, fun j c h => by omega⟩
  · clear HF
    rintro ac2 w2 ⟨i, HF, rfl, h1, h2⟩
    have hmu : r.length - (intOf ((ac2.tmps[5]?).getD undef)).toNat = r.length - i := by rw [HF.see 5 rfl]; simp [intOf]
    have HMU := Lib.hid hmu
    have HNO := Lib.hid h2
    clear hmu h2
    by_cases hi : i < r.length
    · obtain ⟨d, hx⟩ : ∃ d, r[i]? = some d := ⟨_, List.getElem?_eq_getElem hi⟩
      have hg := str_getE hx (by omega)
      have HX := Lib.hid hx
      have hu := u8_lt d
      have hlt' : decide ((i : Int) < r.length) = true := by simp; omega
      clear hx
      refine wp_seq (wp_seq (wp_region_lit ?_))
      refine sl_move HF rfl rfl (.inl rfl) (by decide) rfl ?_; clear HF; intro _ HF
      refine sl_move HF rfl rfl (.inl rfl) (by decide) rfl ?_; clear HF; intro _ HF
      refine sl_op HF rfl rfl (by decide) ?_; intro K hK; have e33 := HF.see 33 rfl; go_wp2_with fail; clear e33 HF; intro _ HF
      refine sl_op HF rfl rfl (by decide) ?_; intro K hK; have e32 := HF.see 32 rfl; have e34 := HF.see 34 rfl; go_wp2_with fail; clear e32 e34 HF; intro _ HF
      refine sl_nil (wp_cond_true (HF.at 35 rfl) (wp_skip (sl_then (wp_seq (wp_block (wp_seq (wp_region_lit ?_)))))))
      by_cases h34 : d = 34
      · have e1 : ((d.toNat : Int) == 34) = true := u8_eq_true h34
        clear h34
        refine sl_move HF rfl rfl (.inl rfl) (by decide) rfl ?_; clear HF; intro _ HF
        refine sl_move HF rfl rfl (.inl rfl) (by decide) rfl ?_; clear HF; intro _ HF
        refine sl_op HF rfl rfl (by decide) ?_; intro K hK; have e38 := HF.see 38 rfl; have e39 := HF.see 39 rfl; go_wp2_with fail; clear e38 e39 HF; intro _ HF
        refine sl_op HF rfl rfl (by decide) ?_; intro K hK; have e40 := HF.see 40 rfl; go_wp2_with fail; clear e40 HF; intro _ HF
        refine sl_nil (wp_cond_true (HF.at 41 rfl) (wp_seq (wp_region_lit ?_)))
        refine sl_const HF rfl rfl (.inr rfl) (by decide) ?_; clear HF; intro _ HF
        exact sl_nil (wp_ret (HQ0.out _ (HF.keep [4])))
      · have e1 : ((d.toNat : Int) == 34) = false := ne_of_u8 h34
        have HD := Lib.hid h34
        clear h34
        refine sl_move HF rfl rfl (.inl rfl) (by decide) rfl ?_; clear HF; intro _ HF
        refine sl_move HF rfl rfl (.inl rfl) (by decide) rfl ?_; clear HF; intro _ HF
        refine sl_op HF rfl rfl (by decide) ?_; intro K hK; have e38 := HF.see 38 rfl; have e39 := HF.see 39 rfl; go_wp2_with fail; clear e38 e39 HF; intro _ HF
        refine sl_op HF rfl rfl (by decide) ?_; intro K hK; have e40 := HF.see 40 rfl; go_wp2_with fail; clear e40 HF; intro _ HF
        refine sl_nil (wp_cond_false (HF.at 41 rfl) (wp_skip (sl_blk (wp_region_lit ?_))))
        refine sl_move HF rfl rfl (.inl rfl) (by decide) rfl ?_; clear HF; intro _ HF
        refine sl_op HF rfl rfl (by decide) ?_; intro K hK; have e36 := HF.see 36 rfl; go_wp2_with fail; clear e36 HF; intro _ HF
        refine sl_move HF rfl rfl (.inr rfl) (by decide) rfl ?_; clear HF; intro _ HF
        refine wpList_nil ?_
        refine ⟨⟨i + 1, ?_, rfl, hi, fun j c k1 hj => ?_⟩, ?_⟩
        · have := HF.keep [0, 1, 5]
          rw [show ((i + 1 : Nat) : Int) = (i : Int) + 1 by omega]
          exact this
        · rcases Nat.lt_or_ge j i with k3 | k3
          · exact HNO.out j c k3 hj
          · obtain rfl : j = i := by omega
            rw [HX.out] at hj
            cases hj
            exact HD.out
        · have e9 := HF.see 5 rfl
          try simp only [Act.eval_tmp]
          rw [HMU.out, e9]
          simp only [intOf]
          omega
    · have hge : decide ((i : Int) < r.length) = false := by simp; omega
      obtain rfl : i = r.length := by omega
      refine wp_seq (wp_seq (wp_region_lit ?_))
      refine sl_move HF rfl rfl (.inl rfl) (by decide) rfl ?_; clear HF; intro _ HF
      refine sl_move HF rfl rfl (.inl rfl) (by decide) rfl ?_; clear HF; intro _ HF
      refine sl_op HF rfl rfl (by decide) ?_; intro K hK; have e33 := HF.see 33 rfl; go_wp2_with fail; clear e33 HF; intro _ HF
      refine sl_op HF rfl rfl (by decide) ?_; intro K hK; have e32 := HF.see 32 rfl; have e34 := HF.see 34 rfl; go_wp2_with fail; clear e32 e34 HF; intro _ HF
      refine sl_nil (wp_cond_false (HF.at 35 rfl) (wp_exit ?_))
      dsimp only [Exit.then]
      refine sl_exit (HQ1.out (fun c hc => ?_) _ (HF.keep [0, 1]))
      obtain ⟨j, hj⟩ := List.getElem?_of_mem hc
      exact HNO.out j c (List.getElem?_eq_some_iff.1 hj).1 hj

theorem partsL_snoc (l r : List UInt8) (ts : List (Tok × Nat)) (p : Tok × Nat) : partsL l r (ts ++ [p]) = partsL l r ts ++ pieceL l r p.2 := by simp [partsL]

def ScpI (w0 : World) (l r : List UInt8) (ts0 : List (Tok × Nat)) (ad : Addr) (n c : Nat) (ac : Act) (w : World) : Prop :=
  ∃ i : Nat, Sl 108 [(0, .string (str l)), (1, .string (str r)), (6, .slice (some ad) n c), (12, .string (str (partsL l r (ts0.take i)))), (13, .int .i64 (i : Nat))] ac ∧ i ≤ ts0.length ∧ Mod Nil w0 w

set_option maxHeartbeats 6400000 in
set_option maxRecDepth 100000 in
/-- The text is built. -/
theorem scb_parts {Q : Exit → Act → World → Prop} {ac : Act} {w : World} {l r : List UInt8} {ts0 : List (Tok × Nat)} {e : Tok × Nat} {ad : Addr} {n c : Nat} (hl : l.length ≤ 300) (hr : r.length ≤ 20)
    (hn : ts0.length + 1 = n) (hn3 : n ≤ 301) (hnc : n ≤ c) (hrd : Rd All w (some ad) (tkCells (ts0 ++ [e]))) (hat : ∀ p ∈ ts0, ∃ k, tokL (l.drop p.2) = some (p.1, k))
    (HF : Sl 108 [(0, .string (str l)), (1, .string (str r)), (6, .slice (some ad) n c), (12, .string (str []))] ac)
    (hQ : ∀ ac' w', Sl 108 [(0, .string (str l)), (1, .string (str r)), (6, .slice (some ad) n c), (12, .string (str (partsL l r ts0)))] ac' → Mod Nil w w' → Q .normal ac' w') :
    (part [1, 1, 1, 1, 1, 1, 0] scbBody).wp Tryz.prog Q ac w := by
  have HQ := Lib.hid hQ
  have HRD := Lib.hid hrd
  have HAT := Lib.hid hat
  have hsz := str_size l
  have hszr := str_size r
  clear hQ hrd hat
  conv => arg 2; whnf
  refine wp_seq (wp_region_lit ?_)
  refine sl_const HF rfl rfl (.inr rfl) (by decide) ?_; clear HF; intro _ HF
  refine sl_nil (wp_block (wp_loop (ScpI w l r ts0 ad n c) (fun ac _ => n - (intOf (ac.eval (.tmp 13))).toNat) ?_ ?_))
  · exact ⟨0, HF.keep [0, 1, 6, 12, 13], Nat.zero_le _, Mod.refl _ _⟩
  · clear HF
    rintro ac2 w2 ⟨i, HF, h1, hm⟩
    have hmu : n - (intOf ((ac2.tmps[13]?).getD undef)).toNat = n - i := by rw [HF.see 13 rfl]; simp [intOf]
    have HMU := Lib.hid hmu
    have HM := Lib.hid hm
    clear hmu hm
    by_cases hi : i < ts0.length
    · have hlt' : decide ((i : Int) + 1 < n) = true := by simp; omega
      refine wp_seq (wp_seq (wp_region_lit ?_))
      refine sl_move HF rfl rfl (.inl rfl) (by decide) rfl ?_; clear HF; intro _ HF
      refine sl_op HF rfl rfl (by decide) ?_; intro K hK; have e59 := HF.see 59 rfl; go_wp2_with fail; clear e59 HF; intro _ HF
      refine sl_move HF rfl rfl (.inl rfl) (by decide) rfl ?_; clear HF; intro _ HF
      refine sl_op HF rfl rfl (by decide) ?_; intro K hK; have e61 := HF.see 61 rfl; go_wp2_with fail; clear e61 HF; intro _ HF
      refine sl_op HF rfl rfl (by decide) ?_; intro K hK; have e60 := HF.see 60 rfl; have e62 := HF.see 62 rfl; go_wp2_with fail; clear e60 e62 HF; intro _ HF
      refine sl_nil (wp_cond_true (HF.at 63 rfl) (wp_skip (sl_then (wp_seq (wp_block (wp_seq (wp_region_lit ?_)))))))
      obtain ⟨p, hp⟩ : ∃ p, ts0[i]? = some p := ⟨_, List.getElem?_eq_getElem hi⟩
      obtain ⟨k, hk⟩ := HAT.out p (List.mem_of_getElem? hp)
      have hkl := tokL_len hk
      rw [List.length_drop] at hkl
      have HK := Lib.hid (show kAt l p.2 = k by unfold kAt; rw [hk])
      have HTK := Lib.hid hk
      have HNX := Lib.hid (show partsL l r (ts0.take (i + 1)) = partsL l r (ts0.take i) ++ pieceL l r p.2 by rw [List.take_add_one, hp]; exact partsL_snoc _ _ _ _)
      have hpx : (ts0 ++ [e])[i]? = some p := by rw [List.getElem?_append_left hi]; exact hp
      obtain ⟨ad', had, hb, k0, k1, k2, k3⟩ := (HRD.out.keep0 HM.out).tok hpx
      injection had with had
      subst had
      have K3 := Lib.hid k3
      obtain ⟨a, ha⟩ : ∃ a, a = p.2 := ⟨_, rfl⟩
      have HPX := Lib.hid hpx
      have HA := Lib.hid ha
      rw [← ha] at HK HTK HNX hkl k3
      clear hp hk hpx k0 k1 k2 ha K3
      have he : (str l).extract a (a + k) = str ((l.drop a).take k) := by rw [str_extract, Nat.add_sub_cancel_left]
      refine sl_move HF rfl rfl (.inl rfl) (by decide) rfl ?_; clear HF; intro _ HF
      refine sl_move HF rfl rfl (.inl rfl) (by decide) rfl ?_; clear HF; intro _ HF
      refine sl_move HF rfl rfl (.inl rfl) (by decide) rfl ?_; clear HF; intro _ HF
      refine sl_op HF rfl rfl (by decide) ?_; intro K hK; have e68 := HF.see 68 rfl; have e69 := HF.see 69 rfl; go_wp2_with fail; clear e68 e69 HF; intro _ HF
      refine sl_op HF rfl rfl (by decide) ?_; intro K hK; have e70 := HF.see 70 rfl; go_wp2_with fail; clear e70 HF; intro _ HF
      refine sl_op HF rfl rfl (by decide) ?_; intro K hK; have e71 := HF.see 71 rfl; go_wp2_with fail; clear e71 HF; intro _ HF
      refine sl_op HF rfl rfl (by decide) ?_; intro K hK; have e67 := HF.see 67 rfl; have e72 := HF.see 72 rfl; go_wp2_with fail
      clear k3
      refine (rToken_any l a (by omega) (by omega) _).mono ?_
      rintro ee w3 ⟨t, z, rfl, hs, _, hm3⟩
      obtain ⟨rfl, rfl⟩ := hs _ _ HTK.out
      have HM3 := Lib.hid (HM.out.trans hm3)
      clear hs hm3
      go_wp2_with fail; clear e67 e72 HF; intro _ HF
      simp only [tokV] at HF
      refine sl_move HF rfl rfl (.inl rfl) (by decide) rfl ?_; clear HF; intro _ HF
      refine sl_op HF rfl rfl (by decide) ?_; intro K hK; have e66 := HF.see 66 rfl; go_wp2_with fail; clear e66 HF; intro _ HF
      refine sl_op HF rfl rfl (by decide) ?_; intro K hK; have e66 := HF.see 66 rfl; go_wp2_with fail; clear e66 HF; intro _ HF
      refine sl_op HF rfl rfl (by decide) ?_; intro K hK; go_wp2_with fail; clear HF; intro _ HF
      refine sl_op0 HF rfl rfl ?_; intro K hK; have e14 := HF.see 14 rfl; have e74 := HF.see 74 rfl; go_wp2_with fail; clear e14 e74 HF; intro _ HF
      refine sl_move HF rfl rfl (.inr rfl) (by decide) rfl ?_; clear HF; intro _ HF
      have HM4 := Lib.hid (HM3.out.alloc (.cells #[.int .i64 p.1.kind, .string (str p.1.text), .int .i64 p.1.n, .int .i64 a] 32))
      generalize w3.alloc (.cells #[.int .i64 p.1.kind, .string (str p.1.text), .int .i64 p.1.n, .int .i64 a] 32) = w4 at HM4 ⊢
      obtain ⟨ad', had, hb, k0, k1, k2, k3⟩ := (HRD.out.keep0 HM4.out).tok HPX.out
      injection had with had
      subst had
      rw [← HA.out] at k3
      clear k0 k1 k2
      have hzz : ((a + k : Nat) : Int) = (a : Int) + k := by omega
      have hak : a + k ≤ l.length := by omega
      try rw [hzz] at HF
      obtain ⟨X, hX⟩ : ∃ X, X = partsL l r (ts0.take i) := ⟨_, rfl⟩
      obtain ⟨D, hD⟩ : ∃ D, D = (l.drop a).take k := ⟨_, rfl⟩
      have hXl : X.length ≤ 97200 := by
        have h1 := pieces_len hl hr (ts0.take i) (l := l) (r := r)
        rw [List.length_take, ← hX] at h1
        omega
      have hDl : D.length ≤ 300 := by rw [hD, List.length_take, List.length_drop]; omega
      have hXs := str_size X
      have hDs := str_size D
      rw [← hD] at he
      rw [← hX] at HF
      have HXX := Lib.hid hX
      have HDD := Lib.hid hD
      clear hX hD
      refine sl_nil (wp_region_lit ?_)
      refine sl_move HF rfl rfl (.inl rfl) (by decide) rfl ?_; clear HF; intro _ HF
      refine sl_move HF rfl rfl (.inl rfl) (by decide) rfl ?_; clear HF; intro _ HF
      refine sl_move HF rfl rfl (.inl rfl) (by decide) rfl ?_; clear HF; intro _ HF
      refine sl_move HF rfl rfl (.inl rfl) (by decide) rfl ?_; clear HF; intro _ HF
      refine sl_op HF rfl rfl (by decide) ?_; intro K hK; have e78 := HF.see 78 rfl; have e79 := HF.see 79 rfl; go_wp2_with fail; clear e78 e79 HF; intro _ HF
      refine sl_op HF rfl rfl (by decide) ?_; intro K hK; have e80 := HF.see 80 rfl; go_wp2_with fail; clear e80 HF; intro _ HF
      refine sl_op HF rfl rfl (by decide) ?_; intro K hK; have e81 := HF.see 81 rfl; go_wp2_with fail; clear e81 HF; intro _ HF
      refine sl_move HF rfl rfl (.inl rfl) (by decide) rfl ?_; clear HF; intro _ HF
      refine sl_op HF rfl rfl (by decide) ?_; intro K hK; have e77 := HF.see 77 rfl; have e82 := HF.see 82 rfl; have e83 := HF.see 83 rfl; go_wp2_with fail; clear e77 e82 e83 HF; intro _ HF
      refine sl_op HF rfl rfl (by decide) ?_; intro K hK; have e76 := HF.see 76 rfl; have e84 := HF.see 84 rfl; go_wp2_with fail; clear e76 e84 HF; intro _ HF
      refine sl_op HF rfl rfl (by decide) ?_; intro K hK; have e85 := HF.see 85 rfl; go_wp2_with fail; clear e85 HF; intro _ HF
      refine sl_move HF rfl rfl (.inl rfl) (by decide) rfl ?_; clear HF; intro _ HF
      refine sl_op HF rfl rfl (by decide) ?_; intro K hK; have e86 := HF.see 86 rfl; have e87 := HF.see 87 rfl; go_wp2_with fail; clear e86 e87 HF; intro _ HF
      refine sl_op HF rfl rfl (by decide) ?_; intro K hK; have e88 := HF.see 88 rfl; go_wp2_with fail; clear e88 HF; intro _ HF
      refine sl_move HF rfl rfl (.inr rfl) (by decide) rfl ?_; clear HF; intro _ HF
      have hcat : str X ++ str D ++ ⟨#[10, 34]⟩ ++ str r ++ ⟨#[34, 32]⟩ = str (partsL l r (ts0.take (i + 1))) := by
        rw [HNX.out, pieceL, HK.out, HXX.out, HDD.out, show (⟨#[10, 34]⟩ : ByteArray) = str [10, 34] from rfl, show (⟨#[34, 32]⟩ : ByteArray) = str [34, 32] from rfl, str_append, str_append, str_append, str_append]
        simp
      rw [hcat] at HF
      refine wpList_nil (sl_blk (wp_region_lit ?_))
      refine sl_move HF rfl rfl (.inl rfl) (by decide) rfl ?_; clear HF; intro _ HF
      refine sl_op HF rfl rfl (by decide) ?_; intro K hK; have e64 := HF.see 64 rfl; go_wp2_with fail; clear e64 HF; intro _ HF
      refine sl_move HF rfl rfl (.inr rfl) (by decide) rfl ?_; clear HF; intro _ HF
      refine wpList_nil ?_
      refine ⟨⟨i + 1, ?_, hi, HM4.out⟩, ?_⟩
      · have := HF.keep [0, 1, 6, 12, 13]
        rw [show ((i + 1 : Nat) : Int) = (i : Int) + 1 by omega]
        exact this
      · have e9 := HF.see 13 rfl
        try simp only [Act.eval_tmp]
        rw [HMU.out, e9]
        simp only [intOf]
        omega
    · have hge : decide ((i : Int) + 1 < n) = false := by simp; omega
      obtain rfl : i = ts0.length := by omega
      rw [List.take_length] at HF
      refine wp_seq (wp_seq (wp_region_lit ?_))
      refine sl_move HF rfl rfl (.inl rfl) (by decide) rfl ?_; clear HF; intro _ HF
      refine sl_op HF rfl rfl (by decide) ?_; intro K hK; have e59 := HF.see 59 rfl; go_wp2_with fail; clear e59 HF; intro _ HF
      refine sl_move HF rfl rfl (.inl rfl) (by decide) rfl ?_; clear HF; intro _ HF
      refine sl_op HF rfl rfl (by decide) ?_; intro K hK; have e61 := HF.see 61 rfl; go_wp2_with fail; clear e61 HF; intro _ HF
      refine sl_op HF rfl rfl (by decide) ?_; intro K hK; have e60 := HF.see 60 rfl; have e62 := HF.see 62 rfl; go_wp2_with fail; clear e60 e62 HF; intro _ HF
      refine sl_nil (wp_cond_false (HF.at 63 rfl) (wp_exit ?_))
      dsimp only [Exit.then]
      exact sl_exit (HQ.out _ _ (HF.keep [0, 1, 6, 12]) HM.out)

set_option maxHeartbeats 3200000 in
set_option maxRecDepth 100000 in
theorem scb_rest {a : Act} {w0 w : World} {l r : List UInt8} (hl : l.length ≤ 300) (hlr : r.length ≤ 20) (hr : ∀ c ∈ r, c ≠ 34)
    (HF : Sl 108 [(0, .string (str l)), (1, .string (str r))] a) (HM : Hid (Mod Nil w0 w)) :
    (part [1, 1, 1] scbBody).wp Tryz.prog (bodyPost Tryz.prog Tryz.f4 (fun e w' => e = .returned (.bool true) ∧ Mod Nil w0 w')) a w := by
  conv => arg 2; whnf
  refine wp_seq (wp_region_lit ?_)
  refine sl_move HF rfl rfl (.inl rfl) (by decide) rfl ?_; clear HF; intro _ HF
  refine sl_op HF rfl rfl (by decide) ?_; intro K hK; have e43 := HF.see 43 rfl; go_wp2_with fail
  refine (rAll_any l (by omega) _).mono ?_
  rintro e w2 ⟨hv, hm2⟩
  obtain ⟨v1, c1, p1, rfl, hv1⟩ := hv.vals
  have HV1 := Lib.hid hv1
  have HM2 := Lib.hid (HM.out.trans hm2)
  clear hv hm2 hv1
  go_wp2_with fail; clear e43 HF; intro _ HF
  refine sl_move HF rfl rfl (.inl rfl) (by decide) rfl ?_; clear HF; intro _ HF
  refine sl_op HF rfl rfl (by decide) ?_; intro K hK; have e42 := HF.see 42 rfl; go_wp2_with fail; clear e42 HF; intro _ HF
  refine sl_op HF rfl rfl (by decide) ?_; intro K hK; have e42 := HF.see 42 rfl; go_wp2_with fail; clear e42 HF; intro _ HF
  refine sl_op HF rfl rfl (by decide) ?_; intro K hK; have e42 := HF.see 42 rfl; go_wp2_with fail; clear e42 HF; intro _ HF
  refine sl_move HF rfl rfl (.inr rfl) (by decide) rfl ?_; clear HF; intro _ HF
  refine sl_move HF rfl rfl (.inr rfl) (by decide) rfl ?_; clear HF; intro _ HF
  refine sl_move HF rfl rfl (.inr rfl) (by decide) rfl ?_; clear HF; intro _ HF
  refine sl_nil (wp_seq (wp_seq (wp_region_lit ?_)))
  rcases hra : allR l with ⟨ca, pa⟩ | ts
  · obtain ⟨rfl, _⟩ := allR_len (by omega) hra
    have hc1 := HV1.out.code.1
    rw [hra] at hc1
    simp only [codeOf] at hc1
    subst hc1
    refine sl_move HF rfl rfl (.inl rfl) (by decide) rfl ?_; clear HF; intro _ HF
    refine sl_op HF rfl rfl (by decide) ?_; intro K hK; have e48 := HF.see 48 rfl; go_wp2_with fail; clear e48 HF; intro _ HF
    refine sl_nil (wp_cond_true (HF.at 49 rfl) (wp_seq (wp_region_lit ?_)))
    refine sl_move HF rfl rfl (.inl rfl) (by decide) rfl ?_; clear HF; intro _ HF
    refine sl_op HF rfl rfl (by decide) ?_; intro K hK; have e51 := HF.see 51 rfl; go_wp2_with fail
    refine (scAll_any l (by omega) _).mono ?_
    rintro e w3 ⟨hv, hm3⟩
    obtain ⟨v2, c2, p2, rfl, hv2⟩ := hv.vals
    have hc2 := hv2.code.1
    rw [hra] at hc2
    simp only [codeOf] at hc2
    subst hc2
    have HM3 := Lib.hid (HM2.out.trans hm3)
    clear hv hm3 hv2 hra
    go_wp2_with fail; clear e51 HF; intro _ HF
    refine sl_move HF rfl rfl (.inl rfl) (by decide) rfl ?_; clear HF; intro _ HF
    refine sl_op HF rfl rfl (by decide) ?_; intro K hK; have e50 := HF.see 50 rfl; go_wp2_with fail; clear e50 HF; intro _ HF
    refine sl_op HF rfl rfl (by decide) ?_; intro K hK; have e50 := HF.see 50 rfl; go_wp2_with fail; clear e50 HF; intro _ HF
    refine sl_op HF rfl rfl (by decide) ?_; intro K hK; have e50 := HF.see 50 rfl; go_wp2_with fail; clear e50 HF; intro _ HF
    refine sl_move HF rfl rfl (.inr rfl) (by decide) rfl ?_; clear HF; intro _ HF
    refine sl_move HF rfl rfl (.inr rfl) (by decide) rfl ?_; clear HF; intro _ HF
    refine sl_move HF rfl rfl (.inr rfl) (by decide) rfl ?_; clear HF; intro _ HF
    refine sl_nil (wp_seq (wp_region_lit ?_))
    refine sl_move HF rfl rfl (.inl rfl) (by decide) rfl ?_; clear HF; intro _ HF
    refine sl_move HF rfl rfl (.inl rfl) (by decide) rfl ?_; clear HF; intro _ HF
    refine sl_op HF rfl rfl (by decide) ?_; intro K hK; have e56 := HF.see 56 rfl; have e57 := HF.see 57 rfl; go_wp2_with fail; clear e56 e57 HF; intro _ HF
    refine sl_move HF rfl rfl (.inr rfl) (by decide) rfl ?_; clear HF; intro _ HF
    refine sl_nil (wp_ret ?_)
    dsimp only [Exit.then]
    exact sl_ret1 HF rfl rfl ⟨rfl, HM3.out⟩
  · have hc1 := HV1.out.code.1
    rw [hra] at hc1
    simp only [codeOf] at hc1
    subst hc1
    have hvo := HV1.out
    rw [hra] at hvo
    obtain ⟨_, _, hown⟩ := hvo
    have hts := allR_some hra
    have hbd := (allR_bd hra).1
    obtain ⟨ad, cp, rfl, hnc, _, hrd⟩ := own_rd hown hts
    obtain ⟨ts0, ee, hte, hat⟩ := scan_at l.length l 0 (Nat.le_refl _) (allR_ok hra)
    have hat' : ∀ p ∈ ts0, ∃ k, tokL (l.drop p.2) = some (p.1, k) := fun p hp => by
      obtain ⟨_, k, h1, _⟩ := hat p hp
      exact ⟨k, h1⟩
    obtain ⟨us, hus, hfst⟩ := scan_parts (l := l) (r := r) hr ts0 0 hat'
    have hplen := pieces_len hl hlr ts0 (r := r) (l := l)
    have hlen : ts.length = ts0.length + 1 := by rw [hte]; simp
    have HRD := Lib.hid hrd
    have HATS := Lib.hid hat'
    have HTE := Lib.hid hte
    have HUS := Lib.hid hus
    have HSAME := Lib.hid (show sameL false us ts = true from sameL_fst (by rw [hfst, hte]; simp))
    have HUL := Lib.hid (show us.length = ts.length by have := congrArg List.length hfst; simp at this; omega)
    obtain ⟨n, hn⟩ : ∃ n, n = ts.length := ⟨_, rfl⟩
    rw [← hn] at HF hlen hnc hbd
    have HN := Lib.hid hn
    have HLEN := Lib.hid hlen
    have hts1 : ts0.length ≤ 300 := by omega
    clear hlen
    clear hra hown hts hrd hte hat hat' hus hfst HV1 hn
    refine sl_move HF rfl rfl (.inl rfl) (by decide) rfl ?_; clear HF; intro _ HF
    refine sl_op HF rfl rfl (by decide) ?_; intro K hK; have e48 := HF.see 48 rfl; go_wp2_with fail; clear e48 HF; intro _ HF
    refine sl_nil (wp_cond_false (HF.at 49 rfl) (wp_skip (sl_then (wp_seq (wp_region_lit ?_)))))
    refine sl_const HF rfl rfl (.inr rfl) (by decide) ?_; clear HF; intro _ HF
    refine sl_nil (wp_seq (scb_parts (ts0 := ts0) (e := (⟨0, [], 0⟩, ee)) hl hlr HLEN.out.symm (by omega) hnc (by rw [← HTE.out]; exact HRD.out) HATS.out (HF.keep [0, 1, 6, 12]) (fun a3 w3 HF hm3 => ?_)))
    have HM3 := Lib.hid (HM2.out.trans hm3)
    have HRD3 := Lib.hid (HRD.out.keep0 hm3)
    have hszT := str_size (partsL l r ts0)
    have hTl : (partsL l r ts0).length ≤ 100000 := by omega
    have HUT := Lib.hid (show allL (partsL l r ts0) = .ok us from HUS.out)
    generalize partsL l r ts0 = T at HF hTl hszT HUT
    clear hm3 HUS hplen HRD
    refine sl_then (wp_seq (wp_region_lit ?_))
    refine sl_move HF rfl rfl (.inl rfl) (by decide) rfl ?_; clear HF; intro _ HF
    refine sl_op HF rfl rfl (by decide) ?_; intro K hK; have e91 := HF.see 91 rfl; go_wp2_with fail
    refine (scAll_any T (by omega) _).mono ?_
    rintro e w4 ⟨hv, hm4⟩
    obtain ⟨v2, c2, p2, rfl, hv2⟩ := hv.vals
    have HV2 := Lib.hid hv2
    have HM4 := Lib.hid (HM3.out.trans hm4)
    have HRD4 := Lib.hid (HRD3.out.keep0 hm4)
    clear hv hm4 hv2
    go_wp2_with fail; clear e91 HF; intro _ HF
    refine sl_move HF rfl rfl (.inl rfl) (by decide) rfl ?_; clear HF; intro _ HF
    refine sl_op HF rfl rfl (by decide) ?_; intro K hK; have e90 := HF.see 90 rfl; go_wp2_with fail; clear e90 HF; intro _ HF
    refine sl_op HF rfl rfl (by decide) ?_; intro K hK; have e90 := HF.see 90 rfl; go_wp2_with fail; clear e90 HF; intro _ HF
    refine sl_op HF rfl rfl (by decide) ?_; intro K hK; have e90 := HF.see 90 rfl; go_wp2_with fail; clear e90 HF; intro _ HF
    refine sl_move HF rfl rfl (.inr rfl) (by decide) rfl ?_; clear HF; intro _ HF
    refine sl_move HF rfl rfl (.inr rfl) (by decide) rfl ?_; clear HF; intro _ HF
    refine sl_move HF rfl rfl (.inr rfl) (by decide) rfl ?_; clear HF; intro _ HF
    refine sl_nil (wp_seq (wp_region_lit ?_))
    by_cases hbig : 4000 < T.length
    · have g1 : decide ((4000 : Int) < (T.length : Int)) = true := by simp; omega
      clear hbig
      refine sl_move HF rfl rfl (.inl rfl) (by decide) rfl ?_; clear HF; intro _ HF
      refine sl_op HF rfl rfl (by decide) ?_; intro K hK; have e96 := HF.see 96 rfl; go_wp2_with fail; clear e96 HF; intro _ HF
      refine sl_op HF rfl rfl (by decide) ?_; intro K hK; have e97 := HF.see 97 rfl; go_wp2_with fail; clear e97 HF; intro _ HF
      refine sl_move HF rfl rfl (.inl rfl) (by decide) rfl ?_; clear HF; intro _ HF
      refine sl_skip HF rfl rfl rfl rfl (by decide) ?_; clear HF; intro _ HF
      refine sl_skip HF rfl rfl rfl rfl (by decide) ?_; clear HF; intro _ HF
      refine sl_skip HF rfl rfl rfl rfl (by decide) ?_; clear HF; intro _ HF
      refine sl_skip_u HF rfl rfl rfl rfl (by decide) ?_; clear HF; intro _ HF
      refine sl_skip_u HF rfl rfl rfl rfl (by decide) ?_; clear HF; intro _ HF
      refine sl_skip_u HF rfl rfl rfl rfl (by decide) ?_; clear HF; intro _ HF
      refine sl_skip HF rfl rfl rfl rfl (by decide) ?_; clear HF; intro _ HF
      refine sl_op HF rfl rfl (by decide) ?_; intro K hK; have e99 := HF.see 99 rfl; have e106 := HF.see 106 rfl; go_wp2_with fail; clear e99 e106 HF; intro _ HF
      refine sl_move HF rfl rfl (.inr rfl) (by decide) rfl ?_; clear HF; intro _ HF
      refine sl_nil (wp_ret ?_)
      exact sl_ret1 HF rfl rfl ⟨rfl, HM4.out⟩
    · have g1 : decide ((4000 : Int) < (T.length : Int)) = false := by simp; omega
      have hrT : allR T = .ok us := by unfold allR; rw [if_neg hbig, HUT.out]
      have hc2 := HV2.out.code.1
      rw [hrT] at hc2
      simp only [codeOf] at hc2
      subst hc2
      obtain ⟨A, cA, rfl, hA⟩ := HV2.out.rd
      rw [hrT] at hA HF
      simp only [toksOf] at hA HF
      have hs := same_any All A (some ad) n n cA cp us ts false w4 (HUL.out.trans HN.out.symm) HN.out.symm (by omega) (by omega) hA HRD4.out
      rw [HSAME.out] at hs
      have HS := Lib.hid hs
      rw [HUL.out, ← HN.out] at HF
      clear hbig hrT hA hs
      refine sl_move HF rfl rfl (.inl rfl) (by decide) rfl ?_; clear HF; intro _ HF
      refine sl_op HF rfl rfl (by decide) ?_; intro K hK; have e96 := HF.see 96 rfl; go_wp2_with fail; clear e96 HF; intro _ HF
      refine sl_op HF rfl rfl (by decide) ?_; intro K hK; have e97 := HF.see 97 rfl; go_wp2_with fail; clear e97 HF; intro _ HF
      refine sl_move HF rfl rfl (.inl rfl) (by decide) rfl ?_; clear HF; intro _ HF
      refine sl_want HF rfl rfl rfl rfl (by decide) ?_; intro K hK; have e17 := HF.see 17 rfl; go_wp2_with fail; clear e17 HF; intro _ HF
      refine sl_want HF rfl rfl rfl rfl (by decide) ?_; intro K hK; have e100 := HF.see 100 rfl; go_wp2_with fail; clear e100 HF; intro _ HF
      refine sl_want HF rfl rfl rfl rfl (by decide) ?_; intro K hK; have e101 := HF.see 101 rfl; go_wp2_with fail; clear e101 HF; intro _ HF
      refine sl_want HF rfl rfl rfl rfl (by decide) ?_; intro K hK; have e16 := HF.see 16 rfl; go_wp2_with fail; clear e16 HF; intro _ HF
      refine sl_want HF rfl rfl rfl rfl (by decide) ?_; intro K hK; have e6 := HF.see 6 rfl; go_wp2_with fail; clear e6 HF; intro _ HF
      refine sl_want HF rfl rfl rfl rfl (by decide) ?_; intro K hK; have e103 := HF.see 103 rfl; have e104 := HF.see 104 rfl; go_wp2_with fail
      refine HS.out.mono ?_
      rintro e w5 ⟨rfl, hm5⟩
      have HM5 := Lib.hid (HM4.out.trans hm5)
      clear hm5
      go_wp2_with fail; clear e103 e104 HF; intro _ HF
      refine sl_want HF rfl rfl rfl rfl (by decide) ?_; intro K hK; have e102 := HF.see 102 rfl; have e105 := HF.see 105 rfl; go_wp2_with fail; clear e102 e105 HF; intro _ HF
      refine sl_op HF rfl rfl (by decide) ?_; intro K hK; have e99 := HF.see 99 rfl; have e106 := HF.see 106 rfl; go_wp2_with fail; clear e99 e106 HF; intro _ HF
      refine sl_move HF rfl rfl (.inr rfl) (by decide) rfl ?_; clear HF; intro _ HF
      refine sl_nil (wp_ret ?_)
      exact sl_ret1 HF rfl rfl ⟨rfl, HM5.out⟩

set_option maxHeartbeats 3200000 in
set_option maxRecDepth 100000 in
theorem scanBlanks_any (l r : List UInt8) (w : World) (hl : l.length ≤ 9223372036854775807) (hr : r.length ≤ 9223372036854775807) :
    Calls Tryz.prog 4 #[.string (str l), .string (str r)] w fun e w' => e = .returned (.bool true) ∧ Mod Nil w w' := by
  have hsz := str_size l
  have hszr := str_size r
  refine sl_enter (n := 108) (fn := Tryz.f4) (c := scbBody) Tryz.func4 rfl rfl (by simp) fun a HF => ?_
  conv => arg 2; whnf
  refine wp_seq (wp_region_lit ?_)
  refine sl_const HF rfl rfl (.inr rfl) (by decide) ?_; clear HF; intro _ HF
  refine sl_nil (wp_seq (wp_seq (wp_region_lit ?_)))
  refine sl_op HF rfl rfl (by decide) ?_; intro K hK; go_wp2_with fail
  refine (awake12_any _).mono ?_
  rintro e w1 ⟨rfl, hm1⟩
  have HM1 := Lib.hid hm1
  clear hm1
  go_wp2_with fail; clear HF; intro _ HF
  by_cases h1 : 300 < l.length
  · have g1 : decide ((300 : Int) < (l.length : Int)) = true := by simp; omega
    clear h1
    refine sl_op HF rfl rfl (by decide) ?_; intro K hK; have e19 := HF.see 19 rfl; go_wp2_with fail; clear e19 HF; intro _ HF
    refine sl_move HF rfl rfl (.inl rfl) (by decide) rfl ?_; clear HF; intro _ HF
    refine sl_want HF rfl rfl rfl rfl (by decide) ?_; intro K hK; have e0 := HF.see 0 rfl; go_wp2_with fail; clear e0 HF; intro _ HF
    refine sl_want HF rfl rfl rfl rfl (by decide) ?_; intro K hK; have e22 := HF.see 22 rfl; go_wp2_with fail; clear e22 HF; intro _ HF
    refine sl_want HF rfl rfl rfl rfl (by decide) ?_; intro K hK; have e23 := HF.see 23 rfl; go_wp2_with fail; clear e23 HF; intro _ HF
    refine sl_op HF rfl rfl (by decide) ?_; intro K hK; have e21 := HF.see 21 rfl; have e24 := HF.see 24 rfl; go_wp2_with fail; clear e21 e24 HF; intro _ HF
    refine sl_move HF rfl rfl (.inl rfl) (by decide) rfl ?_; clear HF; intro _ HF
    refine sl_skip HF rfl rfl rfl rfl (by decide) ?_; clear HF; intro _ HF
    refine sl_skip HF rfl rfl rfl rfl (by decide) ?_; clear HF; intro _ HF
    refine sl_skip HF rfl rfl rfl rfl (by decide) ?_; clear HF; intro _ HF
    refine sl_op HF rfl rfl (by decide) ?_; intro K hK; have e26 := HF.see 26 rfl; have e29 := HF.see 29 rfl; go_wp2_with fail; clear e26 e29 HF; intro _ HF
    refine sl_nil (wp_cond_true (HF.at 30 rfl) (wp_seq (wp_region_lit ?_)))
    refine sl_op HF rfl rfl (by decide) ?_; intro K hK; go_wp2_with fail
    refine (awake12_any _).mono ?_
    rintro e w2 ⟨rfl, hm2⟩
    have HM2 := Lib.hid (HM1.out.trans hm2)
    clear hm2
    go_wp2_with fail; clear HF; intro _ HF
    refine sl_move HF rfl rfl (.inr rfl) (by decide) rfl ?_; clear HF; intro _ HF
    refine sl_nil (wp_ret ?_)
    dsimp only [Exit.then]
    exact sl_ret1 HF rfl rfl ⟨rfl, HM2.out⟩
  · have g1 : decide ((300 : Int) < (l.length : Int)) = false := by simp; omega
    by_cases h2 : 20 < r.length
    · have g2 : decide ((20 : Int) < (r.length : Int)) = true := by simp; omega
      clear h1 h2
      refine sl_op HF rfl rfl (by decide) ?_; intro K hK; have e19 := HF.see 19 rfl; go_wp2_with fail; clear e19 HF; intro _ HF
      refine sl_move HF rfl rfl (.inl rfl) (by decide) rfl ?_; clear HF; intro _ HF
      refine sl_want HF rfl rfl rfl rfl (by decide) ?_; intro K hK; have e0 := HF.see 0 rfl; go_wp2_with fail; clear e0 HF; intro _ HF
      refine sl_want HF rfl rfl rfl rfl (by decide) ?_; intro K hK; have e22 := HF.see 22 rfl; go_wp2_with fail; clear e22 HF; intro _ HF
      refine sl_want HF rfl rfl rfl rfl (by decide) ?_; intro K hK; have e23 := HF.see 23 rfl; go_wp2_with fail; clear e23 HF; intro _ HF
      refine sl_op HF rfl rfl (by decide) ?_; intro K hK; have e21 := HF.see 21 rfl; have e24 := HF.see 24 rfl; go_wp2_with fail; clear e21 e24 HF; intro _ HF
      refine sl_move HF rfl rfl (.inl rfl) (by decide) rfl ?_; clear HF; intro _ HF
      refine sl_want HF rfl rfl rfl rfl (by decide) ?_; intro K hK; have e1 := HF.see 1 rfl; go_wp2_with fail; clear e1 HF; intro _ HF
      refine sl_want HF rfl rfl rfl rfl (by decide) ?_; intro K hK; have e27 := HF.see 27 rfl; go_wp2_with fail; clear e27 HF; intro _ HF
      refine sl_want HF rfl rfl rfl rfl (by decide) ?_; intro K hK; have e28 := HF.see 28 rfl; go_wp2_with fail; clear e28 HF; intro _ HF
      refine sl_op HF rfl rfl (by decide) ?_; intro K hK; have e26 := HF.see 26 rfl; have e29 := HF.see 29 rfl; go_wp2_with fail; clear e26 e29 HF; intro _ HF
      refine sl_nil (wp_cond_true (HF.at 30 rfl) (wp_seq (wp_region_lit ?_)))
      refine sl_op HF rfl rfl (by decide) ?_; intro K hK; go_wp2_with fail
      refine (awake12_any _).mono ?_
      rintro e w2 ⟨rfl, hm2⟩
      have HM2 := Lib.hid (HM1.out.trans hm2)
      clear hm2
      go_wp2_with fail; clear HF; intro _ HF
      refine sl_move HF rfl rfl (.inr rfl) (by decide) rfl ?_; clear HF; intro _ HF
      refine sl_nil (wp_ret ?_)
      dsimp only [Exit.then]
      exact sl_ret1 HF rfl rfl ⟨rfl, HM2.out⟩
    · have g2 : decide ((20 : Int) < (r.length : Int)) = false := by simp; omega
      have hl3 : l.length ≤ 300 := by omega
      have hr2 : r.length ≤ 20 := by omega
      clear h1 h2
      refine sl_op HF rfl rfl (by decide) ?_; intro K hK; have e19 := HF.see 19 rfl; go_wp2_with fail; clear e19 HF; intro _ HF
      refine sl_move HF rfl rfl (.inl rfl) (by decide) rfl ?_; clear HF; intro _ HF
      refine sl_want HF rfl rfl rfl rfl (by decide) ?_; intro K hK; have e0 := HF.see 0 rfl; go_wp2_with fail; clear e0 HF; intro _ HF
      refine sl_want HF rfl rfl rfl rfl (by decide) ?_; intro K hK; have e22 := HF.see 22 rfl; go_wp2_with fail; clear e22 HF; intro _ HF
      refine sl_want HF rfl rfl rfl rfl (by decide) ?_; intro K hK; have e23 := HF.see 23 rfl; go_wp2_with fail; clear e23 HF; intro _ HF
      refine sl_op HF rfl rfl (by decide) ?_; intro K hK; have e21 := HF.see 21 rfl; have e24 := HF.see 24 rfl; go_wp2_with fail; clear e21 e24 HF; intro _ HF
      refine sl_move HF rfl rfl (.inl rfl) (by decide) rfl ?_; clear HF; intro _ HF
      refine sl_want HF rfl rfl rfl rfl (by decide) ?_; intro K hK; have e1 := HF.see 1 rfl; go_wp2_with fail; clear e1 HF; intro _ HF
      refine sl_want HF rfl rfl rfl rfl (by decide) ?_; intro K hK; have e27 := HF.see 27 rfl; go_wp2_with fail; clear e27 HF; intro _ HF
      refine sl_want HF rfl rfl rfl rfl (by decide) ?_; intro K hK; have e28 := HF.see 28 rfl; go_wp2_with fail; clear e28 HF; intro _ HF
      refine sl_op HF rfl rfl (by decide) ?_; intro K hK; have e26 := HF.see 26 rfl; have e29 := HF.see 29 rfl; go_wp2_with fail; clear e26 e29 HF; intro _ HF
      refine sl_nil (wp_cond_false (HF.at 30 rfl) (wp_skip (sl_then (wp_seq ?_))))
      refine scb_rem (by omega) (HF.keep [0, 1]) (fun a2 HF => ?_) (fun hno a2 HF => ?_)
      · dsimp only [Exit.then]
        exact sl_ret1 HF rfl rfl ⟨rfl, HM1.out⟩
      · exact sl_then (scb_rest hl3 hr2 hno HF HM1)
end Go.Proofs.YtpjpmlhnhcmacaaGreatDoor
