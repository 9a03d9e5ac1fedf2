/- The document's All: blanks and remarks. -/
import Derived.Test.YtpjpmlhnhcmacaaGreatDoorRnG
import Derived.Test.YtpjpmlhnhcmacaaGreatDoorRnH
import Derived.Test.YtpjpmlhnhcmacaaGreatDoorAppn
namespace Go.Proofs.YtpjpmlhnhcmacaaGreatDoor
open Go.RowKit

noncomputable def raBody : Code := (Tryz.f14.body).getD .skip

theorem u8_eq_true {c d : UInt8} (h : c = d) : ((c.toNat : Int) == (d.toNat : Int)) = true := by simp [h]

set_option maxHeartbeats 3200000 in
set_option maxRecDepth 100000 in
theorem rall_blank {Q : Exit → Act → World → Prop} {ac : Act} {w : World} {s v5 : Value} {a : Nat} {c : UInt8} (ha : a ≤ 10000)
    (HF : Sl 80 [(0, s), (5, v5), (6, .int .i64 a), (7, .int .u8 c.toNat)] ac)
    (hQ1 : blankL.contains c = true → ∀ ac', Sl 80 [(0, s), (5, v5), (6, .int .i64 ((a : Int) + 1))] ac' → Q (.exit 1) ac' w)
    (hQ0 : blankL.contains c = false → ∀ ac', Sl 80 [(0, s), (5, v5), (6, .int .i64 a), (7, .int .u8 c.toNat)] ac' → Q .normal ac' w) :
    (part [1, 1, 1, 1, 0, 0, 0, 1, 0, 1, 0] raBody).wp Tryz.prog Q ac w := by
  have HQ0 := Lib.hid hQ0
  have HQ1 := Lib.hid hQ1
  have hu := u8_lt c
  clear hQ0 hQ1
  conv => arg 2; whnf
  refine wp_seq (wp_region_lit ?_)
  have hend : ∀ ac' : Act, blankL.contains c = true → Sl 80 [(0, s), (5, v5), (6, .int .i64 a), (34, .bool true)] ac' → True := fun _ _ _ => trivial
  clear hend
  by_cases h32 : c = 32
  · have HB := Lib.hid (show blankL.contains c = true by subst h32; rfl)
    have e1 : ((c.toNat : Int) == 32) = true := u8_eq_true h32
    clear h32
    refine sl_move HF rfl rfl (.inl rfl) (by decide) rfl ?_; clear HF; intro _ HF
    refine sl_op HF rfl rfl (by decide) ?_; intro K hK; have e21 := HF.see 21 rfl; go_wp2_with fail; clear e21 HF; intro _ HF
    refine sl_move HF rfl rfl (.inl rfl) (by decide) rfl ?_; clear HF; intro _ HF
    refine sl_skip HF rfl rfl rfl rfl (by decide) ?_; clear HF; intro _ HF
    refine sl_skip HF rfl rfl rfl rfl (by decide) ?_; clear HF; intro _ HF
    refine sl_op HF rfl rfl (by decide) ?_; intro K hK; have e23 := HF.see 23 rfl; have e25 := HF.see 25 rfl; go_wp2_with fail; clear e23 e25 HF; intro _ HF
    refine sl_move HF rfl rfl (.inl rfl) (by decide) rfl ?_; clear HF; intro _ HF
    refine sl_skip HF rfl rfl rfl rfl (by decide) ?_; clear HF; intro _ HF
    refine sl_skip HF rfl rfl rfl rfl (by decide) ?_; clear HF; intro _ HF
    refine sl_op HF rfl rfl (by decide) ?_; intro K hK; have e27 := HF.see 27 rfl; have e29 := HF.see 29 rfl; go_wp2_with fail; clear e27 e29 HF; intro _ HF
    refine sl_move HF rfl rfl (.inl rfl) (by decide) rfl ?_; clear HF; intro _ HF
    refine sl_skip HF rfl rfl rfl rfl (by decide) ?_; clear HF; intro _ HF
    refine sl_skip HF rfl rfl rfl rfl (by decide) ?_; clear HF; intro _ HF
    refine sl_op HF rfl rfl (by decide) ?_; intro K hK; have e31 := HF.see 31 rfl; have e33 := HF.see 33 rfl; go_wp2_with fail; clear e31 e33 HF; intro _ HF
    refine sl_nil (wp_cond_true (HF.at 34 rfl) (wp_seq (wp_region_lit ?_)))
    refine sl_move HF rfl rfl (.inl rfl) (by decide) rfl ?_; clear HF; intro _ HF
    refine sl_op HF rfl rfl (by decide) ?_; intro K hK; have e35 := HF.see 35 rfl; go_wp2_with fail; clear e35 HF; intro _ HF
    refine sl_move HF rfl rfl (.inr rfl) (by decide) rfl ?_; clear HF; intro _ HF
    exact sl_nil (wp_exit (HQ1.out HB.out _ (HF.keep [0, 5, 6])))
  have e1 : ((c.toNat : Int) == 32) = false := ne_of_u8 h32
  by_cases h9 : c = 9
  · have HB := Lib.hid (show blankL.contains c = true by subst h9; rfl)
    have e2 : ((c.toNat : Int) == 9) = true := u8_eq_true h9
    clear h32 h9
    refine sl_move HF rfl rfl (.inl rfl) (by decide) rfl ?_; clear HF; intro _ HF
    refine sl_op HF rfl rfl (by decide) ?_; intro K hK; have e21 := HF.see 21 rfl; go_wp2_with fail; clear e21 HF; intro _ HF
    refine sl_move HF rfl rfl (.inl rfl) (by decide) rfl ?_; clear HF; intro _ HF
    refine sl_want HF rfl rfl rfl rfl (by decide) ?_; intro K hK; have e7 := HF.see 7 rfl; go_wp2_with fail; clear e7 HF; intro _ HF
    refine sl_want HF rfl rfl rfl rfl (by decide) ?_; intro K hK; have e24 := HF.see 24 rfl; go_wp2_with fail; clear e24 HF; intro _ HF
    refine sl_op HF rfl rfl (by decide) ?_; intro K hK; have e23 := HF.see 23 rfl; have e25 := HF.see 25 rfl; go_wp2_with fail; clear e23 e25 HF; intro _ HF
    refine sl_move HF rfl rfl (.inl rfl) (by decide) rfl ?_; clear HF; intro _ HF
    refine sl_skip HF rfl rfl rfl rfl (by decide) ?_; clear HF; intro _ HF
    refine sl_skip HF rfl rfl rfl rfl (by decide) ?_; clear HF; intro _ HF
    refine sl_op HF rfl rfl (by decide) ?_; intro K hK; have e27 := HF.see 27 rfl; have e29 := HF.see 29 rfl; go_wp2_with fail; clear e27 e29 HF; intro _ HF
    refine sl_move HF rfl rfl (.inl rfl) (by decide) rfl ?_; clear HF; intro _ HF
    refine sl_skip HF rfl rfl rfl rfl (by decide) ?_; clear HF; intro _ HF
    refine sl_skip HF rfl rfl rfl rfl (by decide) ?_; clear HF; intro _ HF
    refine sl_op HF rfl rfl (by decide) ?_; intro K hK; have e31 := HF.see 31 rfl; have e33 := HF.see 33 rfl; go_wp2_with fail; clear e31 e33 HF; intro _ HF
    refine sl_nil (wp_cond_true (HF.at 34 rfl) (wp_seq (wp_region_lit ?_)))
    refine sl_move HF rfl rfl (.inl rfl) (by decide) rfl ?_; clear HF; intro _ HF
    refine sl_op HF rfl rfl (by decide) ?_; intro K hK; have e35 := HF.see 35 rfl; go_wp2_with fail; clear e35 HF; intro _ HF
    refine sl_move HF rfl rfl (.inr rfl) (by decide) rfl ?_; clear HF; intro _ HF
    exact sl_nil (wp_exit (HQ1.out HB.out _ (HF.keep [0, 5, 6])))
  have e2 : ((c.toNat : Int) == 9) = false := ne_of_u8 h9
  by_cases h10 : c = 10
  · have HB := Lib.hid (show blankL.contains c = true by subst h10; rfl)
    have e3 : ((c.toNat : Int) == 10) = true := u8_eq_true h10
    clear h32 h9 h10
    refine sl_move HF rfl rfl (.inl rfl) (by decide) rfl ?_; clear HF; intro _ HF
    refine sl_op HF rfl rfl (by decide) ?_; intro K hK; have e21 := HF.see 21 rfl; go_wp2_with fail; clear e21 HF; intro _ HF
    refine sl_move HF rfl rfl (.inl rfl) (by decide) rfl ?_; clear HF; intro _ HF
    refine sl_want HF rfl rfl rfl rfl (by decide) ?_; intro K hK; have e7 := HF.see 7 rfl; go_wp2_with fail; clear e7 HF; intro _ HF
    refine sl_want HF rfl rfl rfl rfl (by decide) ?_; intro K hK; have e24 := HF.see 24 rfl; go_wp2_with fail; clear e24 HF; intro _ HF
    refine sl_op HF rfl rfl (by decide) ?_; intro K hK; have e23 := HF.see 23 rfl; have e25 := HF.see 25 rfl; go_wp2_with fail; clear e23 e25 HF; intro _ HF
    refine sl_move HF rfl rfl (.inl rfl) (by decide) rfl ?_; clear HF; intro _ HF
    refine sl_want HF rfl rfl rfl rfl (by decide) ?_; intro K hK; have e7 := HF.see 7 rfl; go_wp2_with fail; clear e7 HF; intro _ HF
    refine sl_want HF rfl rfl rfl rfl (by decide) ?_; intro K hK; have e28 := HF.see 28 rfl; go_wp2_with fail; clear e28 HF; intro _ HF
    refine sl_op HF rfl rfl (by decide) ?_; intro K hK; have e27 := HF.see 27 rfl; have e29 := HF.see 29 rfl; go_wp2_with fail; clear e27 e29 HF; intro _ HF
    refine sl_move HF rfl rfl (.inl rfl) (by decide) rfl ?_; clear HF; intro _ HF
    refine sl_skip HF rfl rfl rfl rfl (by decide) ?_; clear HF; intro _ HF
    refine sl_skip HF rfl rfl rfl rfl (by decide) ?_; clear HF; intro _ HF
    refine sl_op HF rfl rfl (by decide) ?_; intro K hK; have e31 := HF.see 31 rfl; have e33 := HF.see 33 rfl; go_wp2_with fail; clear e31 e33 HF; intro _ HF
    refine sl_nil (wp_cond_true (HF.at 34 rfl) (wp_seq (wp_region_lit ?_)))
    refine sl_move HF rfl rfl (.inl rfl) (by decide) rfl ?_; clear HF; intro _ HF
    refine sl_op HF rfl rfl (by decide) ?_; intro K hK; have e35 := HF.see 35 rfl; go_wp2_with fail; clear e35 HF; intro _ HF
    refine sl_move HF rfl rfl (.inr rfl) (by decide) rfl ?_; clear HF; intro _ HF
    exact sl_nil (wp_exit (HQ1.out HB.out _ (HF.keep [0, 5, 6])))
  have e3 : ((c.toNat : Int) == 10) = false := ne_of_u8 h10
  by_cases h13 : c = 13
  · have HB := Lib.hid (show blankL.contains c = true by subst h13; rfl)
    have e4 : ((c.toNat : Int) == 13) = true := u8_eq_true h13
    clear h32 h9 h10 h13
    refine sl_move HF rfl rfl (.inl rfl) (by decide) rfl ?_; clear HF; intro _ HF
    refine sl_op HF rfl rfl (by decide) ?_; intro K hK; have e21 := HF.see 21 rfl; go_wp2_with fail; clear e21 HF; intro _ HF
    refine sl_move HF rfl rfl (.inl rfl) (by decide) rfl ?_; clear HF; intro _ HF
    refine sl_want HF rfl rfl rfl rfl (by decide) ?_; intro K hK; have e7 := HF.see 7 rfl; go_wp2_with fail; clear e7 HF; intro _ HF
    refine sl_want HF rfl rfl rfl rfl (by decide) ?_; intro K hK; have e24 := HF.see 24 rfl; go_wp2_with fail; clear e24 HF; intro _ HF
    refine sl_op HF rfl rfl (by decide) ?_; intro K hK; have e23 := HF.see 23 rfl; have e25 := HF.see 25 rfl; go_wp2_with fail; clear e23 e25 HF; intro _ HF
    refine sl_move HF rfl rfl (.inl rfl) (by decide) rfl ?_; clear HF; intro _ HF
    refine sl_want HF rfl rfl rfl rfl (by decide) ?_; intro K hK; have e7 := HF.see 7 rfl; go_wp2_with fail; clear e7 HF; intro _ HF
    refine sl_want HF rfl rfl rfl rfl (by decide) ?_; intro K hK; have e28 := HF.see 28 rfl; go_wp2_with fail; clear e28 HF; intro _ HF
    refine sl_op HF rfl rfl (by decide) ?_; intro K hK; have e27 := HF.see 27 rfl; have e29 := HF.see 29 rfl; go_wp2_with fail; clear e27 e29 HF; intro _ HF
    refine sl_move HF rfl rfl (.inl rfl) (by decide) rfl ?_; clear HF; intro _ HF
    refine sl_want HF rfl rfl rfl rfl (by decide) ?_; intro K hK; have e7 := HF.see 7 rfl; go_wp2_with fail; clear e7 HF; intro _ HF
    refine sl_want HF rfl rfl rfl rfl (by decide) ?_; intro K hK; have e32 := HF.see 32 rfl; go_wp2_with fail; clear e32 HF; intro _ HF
    refine sl_op HF rfl rfl (by decide) ?_; intro K hK; have e31 := HF.see 31 rfl; have e33 := HF.see 33 rfl; go_wp2_with fail; clear e31 e33 HF; intro _ HF
    refine sl_nil (wp_cond_true (HF.at 34 rfl) (wp_seq (wp_region_lit ?_)))
    refine sl_move HF rfl rfl (.inl rfl) (by decide) rfl ?_; clear HF; intro _ HF
    refine sl_op HF rfl rfl (by decide) ?_; intro K hK; have e35 := HF.see 35 rfl; go_wp2_with fail; clear e35 HF; intro _ HF
    refine sl_move HF rfl rfl (.inr rfl) (by decide) rfl ?_; clear HF; intro _ HF
    exact sl_nil (wp_exit (HQ1.out HB.out _ (HF.keep [0, 5, 6])))
  have e4 : ((c.toNat : Int) == 13) = false := ne_of_u8 h13
  have HB := Lib.hid (show blankL.contains c = false by simp [blankL, h32, h9, h10, h13])
  clear h32 h9 h10 h13
  refine sl_move HF rfl rfl (.inl rfl) (by decide) rfl ?_; clear HF; intro _ HF
  refine sl_op HF rfl rfl (by decide) ?_; intro K hK; have e21 := HF.see 21 rfl; go_wp2_with fail; clear e21 HF; intro _ HF
  refine sl_move HF rfl rfl (.inl rfl) (by decide) rfl ?_; clear HF; intro _ HF
  refine sl_want HF rfl rfl rfl rfl (by decide) ?_; intro K hK; have e7 := HF.see 7 rfl; go_wp2_with fail; clear e7 HF; intro _ HF
  refine sl_want HF rfl rfl rfl rfl (by decide) ?_; intro K hK; have e24 := HF.see 24 rfl; go_wp2_with fail; clear e24 HF; intro _ HF
  refine sl_op HF rfl rfl (by decide) ?_; intro K hK; have e23 := HF.see 23 rfl; have e25 := HF.see 25 rfl; go_wp2_with fail; clear e23 e25 HF; intro _ HF
  refine sl_move HF rfl rfl (.inl rfl) (by decide) rfl ?_; clear HF; intro _ HF
  refine sl_want HF rfl rfl rfl rfl (by decide) ?_; intro K hK; have e7 := HF.see 7 rfl; go_wp2_with fail; clear e7 HF; intro _ HF
  refine sl_want HF rfl rfl rfl rfl (by decide) ?_; intro K hK; have e28 := HF.see 28 rfl; go_wp2_with fail; clear e28 HF; intro _ HF
  refine sl_op HF rfl rfl (by decide) ?_; intro K hK; have e27 := HF.see 27 rfl; have e29 := HF.see 29 rfl; go_wp2_with fail; clear e27 e29 HF; intro _ HF
  refine sl_move HF rfl rfl (.inl rfl) (by decide) rfl ?_; clear HF; intro _ HF
  refine sl_want HF rfl rfl rfl rfl (by decide) ?_; intro K hK; have e7 := HF.see 7 rfl; go_wp2_with fail; clear e7 HF; intro _ HF
  refine sl_want HF rfl rfl rfl rfl (by decide) ?_; intro K hK; have e32 := HF.see 32 rfl; go_wp2_with fail; clear e32 HF; intro _ HF
  refine sl_op HF rfl rfl (by decide) ?_; intro K hK; have e31 := HF.see 31 rfl; have e33 := HF.see 33 rfl; go_wp2_with fail; clear e31 e33 HF; intro _ HF
  exact sl_nil (wp_cond_false (HF.at 34 rfl) (wp_skip (HQ0.out HB.out _ (HF.keep [0, 5, 6, 7]))))

def RemI (l : List UInt8) (a : Nat) (v5 : Value) (w0 : World) (ac : Act) (w : World) : Prop :=
  ∃ i : Nat, Sl 80 [(0, .string (str l)), (5, v5), (6, .int .i64 a), (8, .int .i64 (i : Nat))] ac ∧ w = w0 ∧ a + 1 ≤ i ∧ i ≤ l.length ∧ ∀ j c, a + 1 ≤ j → j < i → l[j]? = some c → c ≠ 34

set_option maxHeartbeats 3200000 in
set_option maxRecDepth 100000 in
theorem rall_rem {Q : Exit → Act → World → Prop} {ac : Act} {w : World} {l : List UInt8} {v5 : Value} {a : Nat} (hl : l.length ≤ 5000) (ha : a < l.length)
    (HF : Sl 80 [(0, .string (str l)), (5, v5), (6, .int .i64 a)] ac)
    (hQ0 : (∀ j c, a + 1 ≤ j → j < l.length → l[j]? = some c → c ≠ 34) → ∀ ac', Sl 80 [(2, .slice none 0 0), (3, .int .i64 40), (4, .int .i64 a)] ac' → Q .ret ac' w)
    (hQ1 : ∀ i, a + 1 ≤ i → (∀ j c, a + 1 ≤ j → j < i → l[j]? = some c → c ≠ 34) → l[i]? = some 34 → ∀ ac', Sl 80 [(0, .string (str l)), (5, v5), (6, .int .i64 ((i : Int) + 1))] ac' → Q (.exit 1) ac' w) :
    (part [1, 1, 1, 1, 0, 0, 0, 1, 0, 1, 1, 0, 1, 0] raBody).wp Tryz.prog Q ac w := by
  have HQ0 := Lib.hid hQ0
  have HQ1 := Lib.hid hQ1
  have hsz := str_size l
  clear hQ0 hQ1
  conv => arg 2; whnf
  refine wp_seq (wp_region_lit ?_)
  refine sl_move HF rfl rfl (.inl rfl) (by decide) rfl ?_; clear HF; intro _ HF
  refine sl_op HF rfl rfl (by decide) ?_; intro K hK; have e39 := HF.see 39 rfl; go_wp2_with fail; clear e39 HF; intro _ HF
  refine sl_move HF rfl rfl (.inr rfl) (by decide) rfl ?_; clear HF; intro _ HF
  refine sl_nil (wp_seq (wp_block (wp_loop (RemI l a v5 w) (fun ac _ => l.length - (intOf (ac.eval (.tmp 8))).toNat) ?_ ?_)))
  · refine ⟨a + 1, ?_, rfl, Nat.le_refl _, ha, fun j c h1 h2 => by omega⟩
    have := HF.keep [0, 5, 6, 8]
    rw [show ((a + 1 : Nat) : Int) = (a : Int) + 1 by omega]
    exact this
  · clear HF
    rintro ac2 w2 ⟨i, HF, rfl, h1, h2, h3⟩
    have hmu : l.length - (intOf ((ac2.tmps[8]?).getD undef)).toNat = l.length - i := by rw [HF.see 8 rfl]; simp [intOf]
    have HMU := Lib.hid hmu
    have HNO := Lib.hid h3
    clear hmu h3
    by_cases hi : i < l.length
    · obtain ⟨d, hx⟩ : ∃ d, l[i]? = some d := ⟨_, List.getElem?_eq_getElem hi⟩
      have hg := str_getE hx (by omega)
      have HX := Lib.hid hx
      have hu := u8_lt d
      have hlt' : decide ((i : Int) < l.length) = true := by simp; omega
      clear hx
      refine wp_seq (wp_seq (wp_region_lit ?_))
      by_cases h34 : d = 34
      · have e1 : ((d.toNat : Int) == 34) = true := u8_eq_true h34
        have e2 : ((d.toNat : Int) != 34) = false := by rw [bne, e1]; rfl
        have hne : ((i : Int) == (l.length : Int)) = false := by simp; omega
        subst h34
        refine sl_move HF rfl rfl (.inl rfl) (by decide) rfl ?_; clear HF; intro _ HF
        refine sl_move HF rfl rfl (.inl rfl) (by decide) rfl ?_; clear HF; intro _ HF
        refine sl_op HF rfl rfl (by decide) ?_; intro K hK; have e42 := HF.see 42 rfl; go_wp2_with fail; clear e42 HF; intro _ HF
        refine sl_op HF rfl rfl (by decide) ?_; intro K hK; have e41 := HF.see 41 rfl; have e43 := HF.see 43 rfl; go_wp2_with fail; clear e41 e43 HF; intro _ HF
        refine sl_move HF rfl rfl (.inl rfl) (by decide) rfl ?_; clear HF; intro _ HF
        refine sl_want HF rfl rfl rfl rfl (by decide) ?_; intro K hK; have e0 := HF.see 0 rfl; go_wp2_with fail; clear e0 HF; intro _ HF
        refine sl_want HF rfl rfl rfl rfl (by decide) ?_; intro K hK; have e8 := HF.see 8 rfl; go_wp2_with fail; clear e8 HF; intro _ HF
        refine sl_want HF rfl rfl rfl rfl (by decide) ?_; intro K hK; have e46 := HF.see 46 rfl; have e47 := HF.see 47 rfl; go_wp2_with fail; clear e46 e47 HF; intro _ HF
        refine sl_want HF rfl rfl rfl rfl (by decide) ?_; intro K hK; have e48 := HF.see 48 rfl; go_wp2_with fail; clear e48 HF; intro _ HF
        refine sl_op HF rfl rfl (by decide) ?_; intro K hK; have e45 := HF.see 45 rfl; have e49 := HF.see 49 rfl; go_wp2_with fail; clear e45 e49 HF; intro _ HF
        refine sl_nil (wp_cond_false (HF.at 50 rfl) (wp_exit ?_))
        dsimp only [Exit.then]
        refine sl_exit (sl_then (wp_seq (wp_seq (wp_region_lit ?_))))
        refine sl_move HF rfl rfl (.inl rfl) (by decide) rfl ?_; clear HF; intro _ HF
        refine sl_move HF rfl rfl (.inl rfl) (by decide) rfl ?_; clear HF; intro _ HF
        refine sl_op HF rfl rfl (by decide) ?_; intro K hK; have e54 := HF.see 54 rfl; go_wp2_with fail; clear e54 HF; intro _ HF
        refine sl_op HF rfl rfl (by decide) ?_; intro K hK; have e53 := HF.see 53 rfl; have e55 := HF.see 55 rfl; go_wp2_with fail; clear e53 e55 HF; intro _ HF
        refine sl_nil (wp_cond_false (HF.at 56 rfl) (wp_skip (sl_then (wp_seq (wp_region_lit ?_)))))
        refine sl_move HF rfl rfl (.inl rfl) (by decide) rfl ?_; clear HF; intro _ HF
        refine sl_op HF rfl rfl (by decide) ?_; intro K hK; have e58 := HF.see 58 rfl; go_wp2_with fail; clear e58 HF; intro _ HF
        refine sl_move HF rfl rfl (.inr rfl) (by decide) rfl ?_; clear HF; intro _ HF
        exact sl_nil (wp_exit (HQ1.out i h1 HNO.out HX.out _ (HF.keep [0, 5, 6])))
      · have e1 : ((d.toNat : Int) == 34) = false := ne_of_u8 h34
        have e2 : ((d.toNat : Int) != 34) = true := by rw [bne, e1]; rfl
        have HD := Lib.hid h34
        clear h34
        refine sl_move HF rfl rfl (.inl rfl) (by decide) rfl ?_; clear HF; intro _ HF
        refine sl_move HF rfl rfl (.inl rfl) (by decide) rfl ?_; clear HF; intro _ HF
        refine sl_op HF rfl rfl (by decide) ?_; intro K hK; have e42 := HF.see 42 rfl; go_wp2_with fail; clear e42 HF; intro _ HF
        refine sl_op HF rfl rfl (by decide) ?_; intro K hK; have e41 := HF.see 41 rfl; have e43 := HF.see 43 rfl; go_wp2_with fail; clear e41 e43 HF; intro _ HF
        refine sl_move HF rfl rfl (.inl rfl) (by decide) rfl ?_; clear HF; intro _ HF
        refine sl_want HF rfl rfl rfl rfl (by decide) ?_; intro K hK; have e0 := HF.see 0 rfl; go_wp2_with fail; clear e0 HF; intro _ HF
        refine sl_want HF rfl rfl rfl rfl (by decide) ?_; intro K hK; have e8 := HF.see 8 rfl; go_wp2_with fail; clear e8 HF; intro _ HF
        refine sl_want HF rfl rfl rfl rfl (by decide) ?_; intro K hK; have e46 := HF.see 46 rfl; have e47 := HF.see 47 rfl; go_wp2_with fail; clear e46 e47 HF; intro _ HF
        refine sl_want HF rfl rfl rfl rfl (by decide) ?_; intro K hK; have e48 := HF.see 48 rfl; go_wp2_with fail; clear e48 HF; intro _ HF
        refine sl_op HF rfl rfl (by decide) ?_; intro K hK; have e45 := HF.see 45 rfl; have e49 := HF.see 49 rfl; go_wp2_with fail; clear e45 e49 HF; intro _ HF
        refine sl_nil (wp_cond_true (HF.at 50 rfl) (wp_skip (sl_then (wp_block (wp_region_lit ?_)))))
        refine sl_move HF rfl rfl (.inl rfl) (by decide) rfl ?_; clear HF; intro _ HF
        refine sl_op HF rfl rfl (by decide) ?_; intro K hK; have e51 := HF.see 51 rfl; go_wp2_with fail; clear e51 HF; intro _ HF
        refine sl_move HF rfl rfl (.inr rfl) (by decide) rfl ?_; clear HF; intro _ HF
        refine wpList_nil ?_
        refine ⟨⟨i + 1, ?_, rfl, by omega, hi, fun j c k1 k2 hj => ?_⟩, ?_⟩
        · have := HF.keep [0, 5, 6, 8]
          rw [show ((i + 1 : Nat) : Int) = (i : Int) + 1 by omega]
          exact this
        · rcases Nat.lt_or_ge j i with k3 | k3
          · exact HNO.out j c k1 k3 hj
          · obtain rfl : j = i := by omega
            rw [HX.out] at hj
            cases hj
            exact HD.out
        · have e9 := HF.see 8 rfl
          try simp only [Act.eval_tmp]
          rw [HMU.out, e9]
          simp only [intOf]
          omega
    · have hge : decide ((i : Int) < l.length) = false := by simp; omega
      obtain rfl : i = l.length := by omega
      refine wp_seq (wp_seq (wp_region_lit ?_))
      refine sl_move HF rfl rfl (.inl rfl) (by decide) rfl ?_; clear HF; intro _ HF
      refine sl_move HF rfl rfl (.inl rfl) (by decide) rfl ?_; clear HF; intro _ HF
      refine sl_op HF rfl rfl (by decide) ?_; intro K hK; have e42 := HF.see 42 rfl; go_wp2_with fail; clear e42 HF; intro _ HF
      refine sl_op HF rfl rfl (by decide) ?_; intro K hK; have e41 := HF.see 41 rfl; have e43 := HF.see 43 rfl; go_wp2_with fail; clear e41 e43 HF; intro _ HF
      refine sl_move HF rfl rfl (.inl rfl) (by decide) rfl ?_; clear HF; intro _ HF
      refine sl_skip HF rfl rfl rfl rfl (by decide) ?_; clear HF; intro _ HF
      refine sl_skip HF rfl rfl rfl rfl (by decide) ?_; clear HF; intro _ HF
      refine sl_skip HF rfl rfl rfl rfl (by decide) ?_; clear HF; intro _ HF
      refine sl_skip HF rfl rfl rfl rfl (by decide) ?_; clear HF; intro _ HF
      refine sl_op HF rfl rfl (by decide) ?_; intro K hK; have e45 := HF.see 45 rfl; have e49 := HF.see 49 rfl; go_wp2_with fail; clear e45 e49 HF; intro _ HF
      refine sl_nil (wp_cond_false (HF.at 50 rfl) (wp_exit ?_))
      dsimp only [Exit.then]
      refine sl_exit (sl_then (wp_seq (wp_seq (wp_region_lit ?_))))
      refine sl_move HF rfl rfl (.inl rfl) (by decide) rfl ?_; clear HF; intro _ HF
      refine sl_move HF rfl rfl (.inl rfl) (by decide) rfl ?_; clear HF; intro _ HF
      refine sl_op HF rfl rfl (by decide) ?_; intro K hK; have e54 := HF.see 54 rfl; go_wp2_with fail; clear e54 HF; intro _ HF
      refine sl_op HF rfl rfl (by decide) ?_; intro K hK; have e53 := HF.see 53 rfl; have e55 := HF.see 55 rfl; go_wp2_with fail; clear e53 e55 HF; intro _ HF
      refine sl_nil (wp_cond_true (HF.at 56 rfl) (wp_seq (wp_region_lit ?_)))
      refine sl_move HF rfl rfl (.inl rfl) (by decide) rfl ?_; clear HF; intro _ HF
      refine sl_const HF rfl rfl (.inr rfl) (by decide) ?_; clear HF; intro _ HF
      refine sl_const HF rfl rfl (.inr rfl) (by decide) ?_; clear HF; intro _ HF
      refine sl_move HF rfl rfl (.inr rfl) (by decide) rfl ?_; clear HF; intro _ HF
      exact sl_nil (wp_ret (HQ0.out HNO.out _ (HF.keep [2, 3, 4])))
end Go.Proofs.YtpjpmlhnhcmacaaGreatDoor
