/- The document's Token: a word. -/
import Derived.Test.YtpjpmlhnhcmacaaGreatDoorRnU
namespace Go.Proofs.YtpjpmlhnhcmacaaGreatDoor
open Go.RowKit

set_option maxHeartbeats 1600000 in
set_option maxRecDepth 100000 in
/-- The end of a word's arm. -/
theorem rtok_wtail {l : List UInt8} {a m : Nat} {w0 w : World} {ac : Act} {g4 g7 k : Nat} {v5 : Value}
    (HF : Sl 260 [(0, .string (str l)), (1, .int .i64 a), (4, .pointer (some ⟨g4, 0, none⟩)), (5, v5), (7, .pointer (some ⟨g7, 0, none⟩)), (8, .int .i64 ((a : Int) + m))] ac)
    (hl : l.length ≤ 5000) (ham : a + m ≤ l.length) (h : TW w0 w g4 g7 ⟨k, [], 0⟩ a) (hs : tokL (l.drop a) = some (⟨k, (l.drop a).take m, 0⟩, m)) :
    (part [1, 1, 1, 0, 1, 0, 1, 1, 1, 1] rtBody).wp Tryz.prog (RetP (bodyPost Tryz.prog Tryz.f16 (fun e w' => RTok l a w0 e w'))) ac w := by
  have hsz := str_size l
  have he : (str l).extract a (a + m) = str ((l.drop a).take m) := by rw [str_extract, Nat.add_sub_cancel_left]
  have HT := Lib.hid h
  obtain ⟨f0, f1, f2, f3, q0, q1, q2⟩ := h.facts
  have HS := Lib.hid hs
  clear h hs
  conv => arg 2; whnf
  refine wp_seq (wp_region_lit ?_)
  refine sl_move HF rfl rfl (.inl rfl) (by decide) rfl ?_; clear HF; intro _ HF
  refine sl_move HF rfl rfl (.inl rfl) (by decide) rfl ?_; clear HF; intro _ HF
  refine sl_move HF rfl rfl (.inl rfl) (by decide) rfl ?_; clear HF; intro _ HF
  refine sl_op HF rfl rfl (by decide) ?_; intro K hK; have e58 := HF.see 58 rfl; have e59 := HF.see 59 rfl; have e60 := HF.see 60 rfl; go_wp2_with fail; clear e58 e59 e60 HF; intro _ HF
  refine sl_op HF rfl rfl (by decide) ?_; intro K hK; have e7 := HF.see 7 rfl; go_wp2_with fail; clear e7 HF; intro _ HF
  refine sl_op0 HF rfl rfl ?_; intro K hK; have e62 := HF.see 62 rfl; have e61 := HF.see 61 rfl; go_wp2_with fail; clear e62 e61 HF; intro _ HF
  refine sl_nil (wp_seq (wp_region_lit ?_))
  have h1 := HT.out.set1 ((l.drop a).take m)
  clear f0 f1 f2 f3 q0 q1 q2 HT
  generalize World.setCell w ⟨g7, 1, none⟩ (.string (str ((l.drop a).take m))) = w1 at h1 ⊢
  have H1 := Lib.hid h1
  obtain ⟨f0, f1, f2, f3, q0, q1, q2⟩ := h1.facts
  obtain ⟨k0, k1, k2, k3, m0, m1, m2, m3⟩ := h1.facts4
  clear h1
  refine sl_op HF rfl rfl (by decide) ?_; intro K hK; have e7 := HF.see 7 rfl; go_wp2_with fail; clear e7 HF; intro _ HF
  refine sl_move HF rfl rfl (.inl rfl) (by decide) rfl ?_; clear HF; intro _ HF
  refine sl_op0 HF rfl rfl ?_; intro K hK; have e4 := HF.see 4 rfl; have e63 := HF.see 63 rfl; go_wp2_with fail; clear e4 e63 HF; intro _ HF
  refine sl_move HF rfl rfl (.inr rfl) (by decide) rfl ?_; clear HF; intro _ HF
  refine sl_nil (wp_ret ?_)
  exact RetP.mk rfl (rtok_end (t := ⟨k, (l.drop a).take m, 0⟩) HF rfl rfl H1.out (fun t' k' h => by rw [HS.out] at h; cases h; exact ⟨rfl, by simp⟩) (fun h => by rw [HS.out] at h; cases h))

set_option maxHeartbeats 1600000 in
set_option maxRecDepth 100000 in
theorem rtok_letter {l : List UInt8} {a : Nat} {w0 w : World} {ac : Act} {g4 g7 : Nat} {c : UInt8}
    (HF : Sl 260 [(0, .string (str l)), (1, .int .i64 a), (4, .pointer (some ⟨g4, 0, none⟩)), (5, .int .i64 0), (6, .int .u8 c.toNat), (7, .pointer (some ⟨g7, 0, none⟩))] ac)
    (hl : l.length ≤ 5000) (hc : l[a]? = some c) (hlet : letB c = true) (h : TW w0 w g4 g7 ⟨0, [], 0⟩ a) :
    (part [1, 1, 1, 0, 1, 0] rtBody).wp Tryz.prog (RetP (bodyPost Tryz.prog Tryz.f16 (fun e w' => RTok l a w0 e w'))) ac w := by
  have hsz := str_size l
  have hal := (List.getElem?_eq_some_iff.1 hc).1
  have hd : l.drop a = c :: l.drop (a + 1) := by rw [List.drop_eq_getElem_cons hal, (List.getElem?_eq_some_iff.1 hc).2]
  obtain ⟨n, hn⟩ : ∃ n, n = wrdL (l.drop a) := ⟨_, rfl⟩
  have HRUN := Lib.hid (show n = runL wrdB (l.drop a) by rw [hn, hd, wrdL, hlet]; rfl)
  have hnl : a + n ≤ l.length := by
    have := wrdL_le (l.drop a)
    rw [← hn, List.length_drop] at this
    omega
  have HTOK := Lib.hid (show tokL (l.drop a) = if 40 < n then none else if kwB (l.drop a) n then some (⟨2, (l.drop a).take (n + 1), 0⟩, n + 1) else some (⟨1, (l.drop a).take n, 0⟩, n) by
    have h1 := HRUN.out
    rw [h1, hd, tokL, if_pos hlet])
  have HW := Lib.hid (rWord_any l a (by omega) (by omega) w)
  rw [← hn] at HW
  have HT := Lib.hid h
  clear h hn hlet hc
  conv => arg 2; whnf
  refine wp_seq (wp_region_lit ?_)
  refine sl_move HF rfl rfl (.inl rfl) (by decide) rfl ?_; clear HF; intro _ HF
  refine sl_move HF rfl rfl (.inl rfl) (by decide) rfl ?_; clear HF; intro _ HF
  refine sl_op HF rfl rfl (by decide) ?_; intro K hK; have e22 := HF.see 22 rfl; have e23 := HF.see 23 rfl; go_wp2_with fail
  refine HW.out.mono ?_
  rintro e w2 ⟨rfl, rfl⟩
  go_wp2_with fail; clear e22 e23 HF; intro _ HF
  refine sl_move HF rfl rfl (.inr rfl) (by decide) rfl ?_; clear HF; intro _ HF
  refine sl_nil (wp_seq (wp_seq (wp_region_lit ?_)))
  have hz : ((a + n : Nat) : Int) = (a : Int) + n := by omega
  by_cases h40 : 40 < n
  · have HX := Lib.hid (show tokL (l.drop a) = none by rw [HTOK.out, if_pos h40])
    have h40' : decide (40 < (a : Int) + (n : Int) - (a : Int)) = true := by simp; omega
    refine sl_move HF rfl rfl (.inl rfl) (by decide) rfl ?_; clear HF; intro _ HF
    refine sl_move HF rfl rfl (.inl rfl) (by decide) rfl ?_; clear HF; intro _ HF
    refine sl_op HF rfl rfl (by decide) ?_; intro K hK; have e25 := HF.see 25 rfl; have e26 := HF.see 26 rfl; go_wp2_with fail; clear e25 e26 HF; intro _ HF
    refine sl_op HF rfl rfl (by decide) ?_; intro K hK; have e27 := HF.see 27 rfl; go_wp2_with fail; clear e27 HF; intro _ HF
    refine sl_nil (wp_cond_true (HF.at 28 rfl) (wp_seq (wp_region_lit ?_)))
    obtain ⟨f0, f1, f2, f3, _, _, _⟩ := HT.out.facts
    obtain ⟨k0, k1, k2, k3, m0, m1, m2, m3⟩ := HT.out.facts4
    refine sl_op HF rfl rfl (by decide) ?_; intro K hK; have e7 := HF.see 7 rfl; go_wp2_with fail; clear e7 HF; intro _ HF
    refine sl_op0 HF rfl rfl ?_; intro K hK; have e4 := HF.see 4 rfl; have e29 := HF.see 29 rfl; go_wp2_with fail; clear e4 e29 HF; intro _ HF
    refine sl_const HF rfl rfl (.inr rfl) (by decide) ?_; clear HF; intro _ HF
    refine sl_nil (wp_ret ?_)
    dsimp only [Exit.then]
    exact RetP.mk rfl (rtok_end (t := ⟨0, [], 0⟩) HF rfl rfl HT.out (fun t' k h => by rw [HX.out] at h; cases h) (fun _ => rfl))
  · have h40' : decide (40 < (a : Int) + (n : Int) - (a : Int)) = false := by simp; omega
    have HTOK2 := Lib.hid (show tokL (l.drop a) = if kwB (l.drop a) n then some (⟨2, (l.drop a).take (n + 1), 0⟩, n + 1) else some (⟨1, (l.drop a).take n, 0⟩, n) by rw [HTOK.out, if_neg h40])
    refine sl_move HF rfl rfl (.inl rfl) (by decide) rfl ?_; clear HF; intro _ HF
    refine sl_move HF rfl rfl (.inl rfl) (by decide) rfl ?_; clear HF; intro _ HF
    refine sl_op HF rfl rfl (by decide) ?_; intro K hK; have e25 := HF.see 25 rfl; have e26 := HF.see 26 rfl; go_wp2_with fail; clear e25 e26 HF; intro _ HF
    refine sl_op HF rfl rfl (by decide) ?_; intro K hK; have e27 := HF.see 27 rfl; go_wp2_with fail; clear e27 HF; intro _ HF
    refine sl_nil (wp_cond_false (HF.at 28 rfl) (wp_skip (sl_then ?_)))
    clear h40 h40'
    refine wp_seq (wp_region_lit ?_)
    obtain ⟨f0, f1, f2, f3, q0, q1, q2⟩ := HT.out.facts
    refine sl_op HF rfl rfl (by decide) ?_; intro K hK; have e7 := HF.see 7 rfl; go_wp2_with fail; clear e7 HF; intro _ HF
    refine sl_op0 HF rfl rfl ?_; intro K hK; have e30 := HF.see 30 rfl; go_wp2_with fail; clear e30 HF; intro _ HF
    refine sl_nil (wp_seq (wp_seq (wp_region_lit ?_)))
    have h1 := HT.out.set0 1
    generalize World.setCell w ⟨g7, 0, none⟩ (.int .i64 1) = w1 at h1 ⊢
    have H1 := Lib.hid h1
    obtain ⟨r0, r1, r2, r3, s0, s1, s2⟩ := h1.facts
    clear f0 f1 f2 f3 q0 q1 q2 h1
    rcases hx : l[a + n]? with _ | d
    · have HX := Lib.hid (show tokL (l.drop a) = some (⟨1, (l.drop a).take n, 0⟩, n) by
        rw [HTOK2.out, if_neg]; unfold kwB; rw [List.getElem?_drop, hx]; simp)
      have hge : decide ((a : Int) + n < l.length) = false := by
        have := List.getElem?_eq_none_iff.1 hx
        simp
        omega
      clear hx
      refine sl_move HF rfl rfl (.inl rfl) (by decide) rfl ?_; clear HF; intro _ HF
      refine sl_move HF rfl rfl (.inl rfl) (by decide) rfl ?_; clear HF; intro _ HF
      refine sl_op HF rfl rfl (by decide) ?_; intro K hK; have e32 := HF.see 32 rfl; go_wp2_with fail; clear e32 HF; intro _ HF
      refine sl_op HF rfl rfl (by decide) ?_; intro K hK; have e31 := HF.see 31 rfl; have e33 := HF.see 33 rfl; go_wp2_with fail; clear e31 e33 HF; intro _ HF
      refine sl_move HF rfl rfl (.inl rfl) (by decide) rfl ?_; clear HF; intro _ HF
      refine sl_skip HF rfl rfl rfl rfl (by decide) ?_; clear HF; intro _ HF
      refine sl_skip HF rfl rfl rfl rfl (by decide) ?_; clear HF; intro _ HF
      refine sl_skip HF rfl rfl rfl rfl (by decide) ?_; clear HF; intro _ HF
      refine sl_skip HF rfl rfl rfl rfl (by decide) ?_; clear HF; intro _ HF
      refine sl_op HF rfl rfl (by decide) ?_; intro K hK; have e35 := HF.see 35 rfl; have e39 := HF.see 39 rfl; go_wp2_with fail; clear e35 e39 HF; intro _ HF
      refine sl_move HF rfl rfl (.inl rfl) (by decide) rfl ?_; clear HF; intro _ HF
      refine sl_skip HF rfl rfl rfl rfl (by decide) ?_; clear HF; intro _ HF
      refine sl_skip HF rfl rfl rfl rfl (by decide) ?_; clear HF; intro _ HF
      refine sl_skip HF rfl rfl rfl rfl (by decide) ?_; clear HF; intro _ HF
      refine sl_skip HF rfl rfl rfl rfl (by decide) ?_; clear HF; intro _ HF
      refine sl_skip HF rfl rfl rfl rfl (by decide) ?_; clear HF; intro _ HF
      refine sl_skip HF rfl rfl rfl rfl (by decide) ?_; clear HF; intro _ HF
      refine sl_skip_u HF rfl rfl rfl rfl (by decide) ?_; clear HF; intro _ HF
      refine sl_skip_u HF rfl rfl rfl rfl (by decide) ?_; clear HF; intro _ HF
      refine sl_skip_u HF rfl rfl rfl rfl (by decide) ?_; clear HF; intro _ HF
      refine sl_skip_u HF rfl rfl rfl rfl (by decide) ?_; clear HF; intro _ HF
      refine sl_skip_u HF rfl rfl rfl rfl (by decide) ?_; clear HF; intro _ HF
      refine sl_skip HF rfl rfl rfl rfl (by decide) ?_; clear HF; intro _ HF
      refine sl_op HF rfl rfl (by decide) ?_; intro K hK; have e41 := HF.see 41 rfl; have e53 := HF.see 53 rfl; go_wp2_with fail; clear e41 e53 HF; intro _ HF
      refine sl_nil (wp_cond_false (HF.at 54 rfl) (wp_skip (sl_then ?_)))
      exact rtok_wtail (m := n) (HF.keep [0, 1, 4, 5, 7, 8]) hl (by omega) H1.out HX.out
    · have hlt := (List.getElem?_eq_some_iff.1 hx).1
      have hg := str_getE hx (by omega)
      have hlt' : decide ((a : Int) + n < l.length) = true := by simp; omega
      by_cases h58 : d = 58
      · subst h58
        rcases hy : l[a + n + 1]? with _ | e
        · have HX := Lib.hid (show tokL (l.drop a) = some (⟨2, (l.drop a).take (n + 1), 0⟩, n + 1) by
            rw [HTOK2.out, if_pos]; unfold kwB; rw [List.getElem?_drop, hx, List.getElem?_drop, show a + (n + 1) = a + n + 1 by omega, hy]; rfl)
          have heq : ((a : Int) + n + 1 == (l.length : Int)) = true := by
            have := List.getElem?_eq_none_iff.1 hy
            simp
            omega
          clear hx hy
          refine sl_move HF rfl rfl (.inl rfl) (by decide) rfl ?_; clear HF; intro _ HF
          refine sl_move HF rfl rfl (.inl rfl) (by decide) rfl ?_; clear HF; intro _ HF
          refine sl_op HF rfl rfl (by decide) ?_; intro K hK; have e32 := HF.see 32 rfl; go_wp2_with fail; clear e32 HF; intro _ HF
          refine sl_op HF rfl rfl (by decide) ?_; intro K hK; have e31 := HF.see 31 rfl; have e33 := HF.see 33 rfl; go_wp2_with fail; clear e31 e33 HF; intro _ HF
          refine sl_move HF rfl rfl (.inl rfl) (by decide) rfl ?_; clear HF; intro _ HF
          refine sl_want HF rfl rfl rfl rfl (by decide) ?_; intro K hK; have e0 := HF.see 0 rfl; go_wp2_with fail; clear e0 HF; intro _ HF
          refine sl_want HF rfl rfl rfl rfl (by decide) ?_; intro K hK; have e8 := HF.see 8 rfl; go_wp2_with fail; clear e8 HF; intro _ HF
          refine sl_want HF rfl rfl rfl rfl (by decide) ?_; intro K hK; have e36 := HF.see 36 rfl; have e37 := HF.see 37 rfl; go_wp2_with fail; clear e36 e37 HF; intro _ HF
          refine sl_want HF rfl rfl rfl rfl (by decide) ?_; intro K hK; have e38 := HF.see 38 rfl; go_wp2_with fail; clear e38 HF; intro _ HF
          refine sl_op HF rfl rfl (by decide) ?_; intro K hK; have e35 := HF.see 35 rfl; have e39 := HF.see 39 rfl; go_wp2_with fail; clear e35 e39 HF; intro _ HF
          refine sl_move HF rfl rfl (.inl rfl) (by decide) rfl ?_; clear HF; intro _ HF
          refine sl_want HF rfl rfl rfl rfl (by decide) ?_; intro K hK; have e8 := HF.see 8 rfl; go_wp2_with fail; clear e8 HF; intro _ HF
          refine sl_want HF rfl rfl rfl rfl (by decide) ?_; intro K hK; have e42 := HF.see 42 rfl; go_wp2_with fail; clear e42 HF; intro _ HF
          refine sl_want HF rfl rfl rfl rfl (by decide) ?_; intro K hK; have e0 := HF.see 0 rfl; go_wp2_with fail; clear e0 HF; intro _ HF
          refine sl_want HF rfl rfl rfl rfl (by decide) ?_; intro K hK; have e44 := HF.see 44 rfl; go_wp2_with fail; clear e44 HF; intro _ HF
          refine sl_want HF rfl rfl rfl rfl (by decide) ?_; intro K hK; have e43 := HF.see 43 rfl; have e45 := HF.see 45 rfl; go_wp2_with fail; clear e43 e45 HF; intro _ HF
          refine sl_want HF rfl rfl rfl rfl (by decide) ?_; intro K hK; have e46 := HF.see 46 rfl; go_wp2_with fail; clear e46 HF; intro _ HF
          refine sl_skip HF rfl rfl rfl rfl (by decide) ?_; clear HF; intro _ HF
          refine sl_skip HF rfl rfl rfl rfl (by decide) ?_; clear HF; intro _ HF
          refine sl_skip HF rfl rfl rfl rfl (by decide) ?_; clear HF; intro _ HF
          refine sl_skip HF rfl rfl rfl rfl (by decide) ?_; clear HF; intro _ HF
          refine sl_skip HF rfl rfl rfl rfl (by decide) ?_; clear HF; intro _ HF
          refine sl_want HF rfl rfl rfl rfl (by decide) ?_; intro K hK; have e47 := HF.see 47 rfl; have e52 := HF.see 52 rfl; go_wp2_with fail; clear e47 e52 HF; intro _ HF
          refine sl_op HF rfl rfl (by decide) ?_; intro K hK; have e41 := HF.see 41 rfl; have e53 := HF.see 53 rfl; go_wp2_with fail; clear e41 e53 HF; intro _ HF
          refine sl_nil (wp_cond_true (HF.at 54 rfl) (wp_seq (wp_region_lit ?_)))
          refine sl_op HF rfl rfl (by decide) ?_; intro K hK; have e7 := HF.see 7 rfl; go_wp2_with fail; clear e7 HF; intro _ HF
          refine sl_op0 HF rfl rfl ?_; intro K hK; have e55 := HF.see 55 rfl; go_wp2_with fail; clear e55 HF; intro _ HF
          refine sl_nil (wp_region_lit ?_)
          have h2 := H1.out.set0 2
          generalize World.setCell w1 ⟨g7, 0, none⟩ (.int .i64 2) = w3 at h2 ⊢
          refine sl_move HF rfl rfl (.inl rfl) (by decide) rfl ?_; clear HF; intro _ HF
          refine sl_op HF rfl rfl (by decide) ?_; intro K hK; have e56 := HF.see 56 rfl; go_wp2_with fail; clear e56 HF; intro _ HF
          refine sl_move HF rfl rfl (.inr rfl) (by decide) rfl ?_; clear HF; intro _ HF
          refine wpList_nil (sl_then ?_)
          exact rtok_wtail (m := n + 1) (by have := HF.keep [0, 1, 4, 5, 7, 8]; rw [show (a : Int) + (n : Int) + 1 = (a : Int) + ((n + 1 : Nat) : Int) by omega] at this; exact this) hl (by omega) h2 HX.out
        · have hlt2 := (List.getElem?_eq_some_iff.1 hy).1
          have hg2 := str_getE hy (by omega)
          have heq : ((a : Int) + n + 1 == (l.length : Int)) = false := by simp; omega
          by_cases h61 : e = 61
          · subst h61
            have HX := Lib.hid (show tokL (l.drop a) = some (⟨1, (l.drop a).take n, 0⟩, n) by
              rw [HTOK2.out, if_neg]; unfold kwB; rw [List.getElem?_drop, hx, List.getElem?_drop, show a + (n + 1) = a + n + 1 by omega, hy]; simp)
            clear hx hy
            refine sl_move HF rfl rfl (.inl rfl) (by decide) rfl ?_; clear HF; intro _ HF
            refine sl_move HF rfl rfl (.inl rfl) (by decide) rfl ?_; clear HF; intro _ HF
            refine sl_op HF rfl rfl (by decide) ?_; intro K hK; have e32 := HF.see 32 rfl; go_wp2_with fail; clear e32 HF; intro _ HF
            refine sl_op HF rfl rfl (by decide) ?_; intro K hK; have e31 := HF.see 31 rfl; have e33 := HF.see 33 rfl; go_wp2_with fail; clear e31 e33 HF; intro _ HF
            refine sl_move HF rfl rfl (.inl rfl) (by decide) rfl ?_; clear HF; intro _ HF
            refine sl_want HF rfl rfl rfl rfl (by decide) ?_; intro K hK; have e0 := HF.see 0 rfl; go_wp2_with fail; clear e0 HF; intro _ HF
            refine sl_want HF rfl rfl rfl rfl (by decide) ?_; intro K hK; have e8 := HF.see 8 rfl; go_wp2_with fail; clear e8 HF; intro _ HF
            refine sl_want HF rfl rfl rfl rfl (by decide) ?_; intro K hK; have e36 := HF.see 36 rfl; have e37 := HF.see 37 rfl; go_wp2_with fail; clear e36 e37 HF; intro _ HF
            refine sl_want HF rfl rfl rfl rfl (by decide) ?_; intro K hK; have e38 := HF.see 38 rfl; go_wp2_with fail; clear e38 HF; intro _ HF
            refine sl_op HF rfl rfl (by decide) ?_; intro K hK; have e35 := HF.see 35 rfl; have e39 := HF.see 39 rfl; go_wp2_with fail; clear e35 e39 HF; intro _ HF
            refine sl_move HF rfl rfl (.inl rfl) (by decide) rfl ?_; clear HF; intro _ HF
            refine sl_want HF rfl rfl rfl rfl (by decide) ?_; intro K hK; have e8 := HF.see 8 rfl; go_wp2_with fail; clear e8 HF; intro _ HF
            refine sl_want HF rfl rfl rfl rfl (by decide) ?_; intro K hK; have e42 := HF.see 42 rfl; go_wp2_with fail; clear e42 HF; intro _ HF
            refine sl_want HF rfl rfl rfl rfl (by decide) ?_; intro K hK; have e0 := HF.see 0 rfl; go_wp2_with fail; clear e0 HF; intro _ HF
            refine sl_want HF rfl rfl rfl rfl (by decide) ?_; intro K hK; have e44 := HF.see 44 rfl; go_wp2_with fail; clear e44 HF; intro _ HF
            refine sl_want HF rfl rfl rfl rfl (by decide) ?_; intro K hK; have e43 := HF.see 43 rfl; have e45 := HF.see 45 rfl; go_wp2_with fail; clear e43 e45 HF; intro _ HF
            refine sl_want HF rfl rfl rfl rfl (by decide) ?_; intro K hK; have e46 := HF.see 46 rfl; go_wp2_with fail; clear e46 HF; intro _ HF
            refine sl_want HF rfl rfl rfl rfl (by decide) ?_; intro K hK; have e0 := HF.see 0 rfl; go_wp2_with fail; clear e0 HF; intro _ HF
            refine sl_want HF rfl rfl rfl rfl (by decide) ?_; intro K hK; have e8 := HF.see 8 rfl; go_wp2_with fail; clear e8 HF; intro _ HF
            refine sl_want HF rfl rfl rfl rfl (by decide) ?_; intro K hK; have e49 := HF.see 49 rfl; go_wp2_with fail; clear e49 HF; intro _ HF
            refine sl_want HF rfl rfl rfl rfl (by decide) ?_; intro K hK; have e48 := HF.see 48 rfl; have e50 := HF.see 50 rfl; go_wp2_with fail; clear e48 e50 HF; intro _ HF
            refine sl_want HF rfl rfl rfl rfl (by decide) ?_; intro K hK; have e51 := HF.see 51 rfl; go_wp2_with fail; clear e51 HF; intro _ HF
            refine sl_want HF rfl rfl rfl rfl (by decide) ?_; intro K hK; have e47 := HF.see 47 rfl; have e52 := HF.see 52 rfl; go_wp2_with fail; clear e47 e52 HF; intro _ HF
            refine sl_op HF rfl rfl (by decide) ?_; intro K hK; have e41 := HF.see 41 rfl; have e53 := HF.see 53 rfl; go_wp2_with fail; clear e41 e53 HF; intro _ HF
            refine sl_nil (wp_cond_false (HF.at 54 rfl) (wp_skip (sl_then ?_)))
            exact rtok_wtail (m := n) (HF.keep [0, 1, 4, 5, 7, 8]) hl (by omega) H1.out HX.out
          · have HX := Lib.hid (show tokL (l.drop a) = some (⟨2, (l.drop a).take (n + 1), 0⟩, n + 1) by
              rw [HTOK2.out, if_pos]; unfold kwB; rw [List.getElem?_drop, hx, List.getElem?_drop, show a + (n + 1) = a + n + 1 by omega, hy]; simp [h61])
            have hne2 : ((e.toNat : Int) == 61) = false := ne_of_u8 h61
            have hne3 : ((e.toNat : Int) != 61) = true := by rw [bne, hne2]; rfl
            have hu := u8_lt e
            clear hx hy h61
            refine sl_move HF rfl rfl (.inl rfl) (by decide) rfl ?_; clear HF; intro _ HF
            refine sl_move HF rfl rfl (.inl rfl) (by decide) rfl ?_; clear HF; intro _ HF
            refine sl_op HF rfl rfl (by decide) ?_; intro K hK; have e32 := HF.see 32 rfl; go_wp2_with fail; clear e32 HF; intro _ HF
            refine sl_op HF rfl rfl (by decide) ?_; intro K hK; have e31 := HF.see 31 rfl; have e33 := HF.see 33 rfl; go_wp2_with fail; clear e31 e33 HF; intro _ HF
            refine sl_move HF rfl rfl (.inl rfl) (by decide) rfl ?_; clear HF; intro _ HF
            refine sl_want HF rfl rfl rfl rfl (by decide) ?_; intro K hK; have e0 := HF.see 0 rfl; go_wp2_with fail; clear e0 HF; intro _ HF
            refine sl_want HF rfl rfl rfl rfl (by decide) ?_; intro K hK; have e8 := HF.see 8 rfl; go_wp2_with fail; clear e8 HF; intro _ HF
            refine sl_want HF rfl rfl rfl rfl (by decide) ?_; intro K hK; have e36 := HF.see 36 rfl; have e37 := HF.see 37 rfl; go_wp2_with fail; clear e36 e37 HF; intro _ HF
            refine sl_want HF rfl rfl rfl rfl (by decide) ?_; intro K hK; have e38 := HF.see 38 rfl; go_wp2_with fail; clear e38 HF; intro _ HF
            refine sl_op HF rfl rfl (by decide) ?_; intro K hK; have e35 := HF.see 35 rfl; have e39 := HF.see 39 rfl; go_wp2_with fail; clear e35 e39 HF; intro _ HF
            refine sl_move HF rfl rfl (.inl rfl) (by decide) rfl ?_; clear HF; intro _ HF
            refine sl_want HF rfl rfl rfl rfl (by decide) ?_; intro K hK; have e8 := HF.see 8 rfl; go_wp2_with fail; clear e8 HF; intro _ HF
            refine sl_want HF rfl rfl rfl rfl (by decide) ?_; intro K hK; have e42 := HF.see 42 rfl; go_wp2_with fail; clear e42 HF; intro _ HF
            refine sl_want HF rfl rfl rfl rfl (by decide) ?_; intro K hK; have e0 := HF.see 0 rfl; go_wp2_with fail; clear e0 HF; intro _ HF
            refine sl_want HF rfl rfl rfl rfl (by decide) ?_; intro K hK; have e44 := HF.see 44 rfl; go_wp2_with fail; clear e44 HF; intro _ HF
            refine sl_want HF rfl rfl rfl rfl (by decide) ?_; intro K hK; have e43 := HF.see 43 rfl; have e45 := HF.see 45 rfl; go_wp2_with fail; clear e43 e45 HF; intro _ HF
            refine sl_want HF rfl rfl rfl rfl (by decide) ?_; intro K hK; have e46 := HF.see 46 rfl; go_wp2_with fail; clear e46 HF; intro _ HF
            refine sl_want HF rfl rfl rfl rfl (by decide) ?_; intro K hK; have e0 := HF.see 0 rfl; go_wp2_with fail; clear e0 HF; intro _ HF
            refine sl_want HF rfl rfl rfl rfl (by decide) ?_; intro K hK; have e8 := HF.see 8 rfl; go_wp2_with fail; clear e8 HF; intro _ HF
            refine sl_want HF rfl rfl rfl rfl (by decide) ?_; intro K hK; have e49 := HF.see 49 rfl; go_wp2_with fail; clear e49 HF; intro _ HF
            refine sl_want HF rfl rfl rfl rfl (by decide) ?_; intro K hK; have e48 := HF.see 48 rfl; have e50 := HF.see 50 rfl; go_wp2_with fail; clear e48 e50 HF; intro _ HF
            refine sl_want HF rfl rfl rfl rfl (by decide) ?_; intro K hK; have e51 := HF.see 51 rfl; go_wp2_with fail; clear e51 HF; intro _ HF
            refine sl_want HF rfl rfl rfl rfl (by decide) ?_; intro K hK; have e47 := HF.see 47 rfl; have e52 := HF.see 52 rfl; go_wp2_with fail; clear e47 e52 HF; intro _ HF
            refine sl_op HF rfl rfl (by decide) ?_; intro K hK; have e41 := HF.see 41 rfl; have e53 := HF.see 53 rfl; go_wp2_with fail; clear e41 e53 HF; intro _ HF
            refine sl_nil (wp_cond_true (HF.at 54 rfl) (wp_seq (wp_region_lit ?_)))
            refine sl_op HF rfl rfl (by decide) ?_; intro K hK; have e7 := HF.see 7 rfl; go_wp2_with fail; clear e7 HF; intro _ HF
            refine sl_op0 HF rfl rfl ?_; intro K hK; have e55 := HF.see 55 rfl; go_wp2_with fail; clear e55 HF; intro _ HF
            refine sl_nil (wp_region_lit ?_)
            have h2 := H1.out.set0 2
            generalize World.setCell w1 ⟨g7, 0, none⟩ (.int .i64 2) = w3 at h2 ⊢
            refine sl_move HF rfl rfl (.inl rfl) (by decide) rfl ?_; clear HF; intro _ HF
            refine sl_op HF rfl rfl (by decide) ?_; intro K hK; have e56 := HF.see 56 rfl; go_wp2_with fail; clear e56 HF; intro _ HF
            refine sl_move HF rfl rfl (.inr rfl) (by decide) rfl ?_; clear HF; intro _ HF
            refine wpList_nil (sl_then ?_)
            exact rtok_wtail (m := n + 1) (by have := HF.keep [0, 1, 4, 5, 7, 8]; rw [show (a : Int) + (n : Int) + 1 = (a : Int) + ((n + 1 : Nat) : Int) by omega] at this; exact this) hl (by omega) h2 HX.out
      · have HX := Lib.hid (show tokL (l.drop a) = some (⟨1, (l.drop a).take n, 0⟩, n) by
          rw [HTOK2.out, if_neg]; unfold kwB; rw [List.getElem?_drop, hx]; simp [h58])
        have hne2 : ((d.toNat : Int) == 58) = false := ne_of_u8 h58
        have hu := u8_lt d
        clear hx h58
        refine sl_move HF rfl rfl (.inl rfl) (by decide) rfl ?_; clear HF; intro _ HF
        refine sl_move HF rfl rfl (.inl rfl) (by decide) rfl ?_; clear HF; intro _ HF
        refine sl_op HF rfl rfl (by decide) ?_; intro K hK; have e32 := HF.see 32 rfl; go_wp2_with fail; clear e32 HF; intro _ HF
        refine sl_op HF rfl rfl (by decide) ?_; intro K hK; have e31 := HF.see 31 rfl; have e33 := HF.see 33 rfl; go_wp2_with fail; clear e31 e33 HF; intro _ HF
        refine sl_move HF rfl rfl (.inl rfl) (by decide) rfl ?_; clear HF; intro _ HF
        refine sl_want HF rfl rfl rfl rfl (by decide) ?_; intro K hK; have e0 := HF.see 0 rfl; go_wp2_with fail; clear e0 HF; intro _ HF
        refine sl_want HF rfl rfl rfl rfl (by decide) ?_; intro K hK; have e8 := HF.see 8 rfl; go_wp2_with fail; clear e8 HF; intro _ HF
        refine sl_want HF rfl rfl rfl rfl (by decide) ?_; intro K hK; have e36 := HF.see 36 rfl; have e37 := HF.see 37 rfl; go_wp2_with fail; clear e36 e37 HF; intro _ HF
        refine sl_want HF rfl rfl rfl rfl (by decide) ?_; intro K hK; have e38 := HF.see 38 rfl; go_wp2_with fail; clear e38 HF; intro _ HF
        refine sl_op HF rfl rfl (by decide) ?_; intro K hK; have e35 := HF.see 35 rfl; have e39 := HF.see 39 rfl; go_wp2_with fail; clear e35 e39 HF; intro _ HF
        refine sl_move HF rfl rfl (.inl rfl) (by decide) rfl ?_; clear HF; intro _ HF
        refine sl_skip HF rfl rfl rfl rfl (by decide) ?_; clear HF; intro _ HF
        refine sl_skip HF rfl rfl rfl rfl (by decide) ?_; clear HF; intro _ HF
        refine sl_skip HF rfl rfl rfl rfl (by decide) ?_; clear HF; intro _ HF
        refine sl_skip HF rfl rfl rfl rfl (by decide) ?_; clear HF; intro _ HF
        refine sl_skip HF rfl rfl rfl rfl (by decide) ?_; clear HF; intro _ HF
        refine sl_skip HF rfl rfl rfl rfl (by decide) ?_; clear HF; intro _ HF
        refine sl_skip_u HF rfl rfl rfl rfl (by decide) ?_; clear HF; intro _ HF
        refine sl_skip_u HF rfl rfl rfl rfl (by decide) ?_; clear HF; intro _ HF
        refine sl_skip_u HF rfl rfl rfl rfl (by decide) ?_; clear HF; intro _ HF
        refine sl_skip_u HF rfl rfl rfl rfl (by decide) ?_; clear HF; intro _ HF
        refine sl_skip_u HF rfl rfl rfl rfl (by decide) ?_; clear HF; intro _ HF
        refine sl_skip HF rfl rfl rfl rfl (by decide) ?_; clear HF; intro _ HF
        refine sl_op HF rfl rfl (by decide) ?_; intro K hK; have e41 := HF.see 41 rfl; have e53 := HF.see 53 rfl; go_wp2_with fail; clear e41 e53 HF; intro _ HF
        refine sl_nil (wp_cond_false (HF.at 54 rfl) (wp_skip (sl_then ?_)))
        exact rtok_wtail (m := n) (HF.keep [0, 1, 4, 5, 7, 8]) hl (by omega) H1.out HX.out
end Go.Proofs.YtpjpmlhnhcmacaaGreatDoor
