/- The document's Token: digits. -/
import Derived.Test.YtpjpmlhnhcmacaaGreatDoorRnV
import Derived.Test.YtpjpmlhnhcmacaaGreatDoorPhSt
namespace Go.Proofs.YtpjpmlhnhcmacaaGreatDoor
open Go.RowKit

theorem decV_snoc (l : List UInt8) (c : UInt8) : decV (l ++ [c]) = decV l * 10 + (c.toNat - 48) := by simp [decV]
theorem decV_lt (l : List UInt8) : ∀ n, n ≤ l.length → (l.take n).all digB = true → decV (l.take n) < 10 ^ n := by
  intro n
  induction n with
  | zero => intro _ _; simp [decV]
  | succ n ih =>
    intro h hd
    obtain ⟨c, hc⟩ : ∃ c, l[n]? = some c := ⟨_, List.getElem?_eq_getElem (by omega)⟩
    have h1 : l.take (n + 1) = l.take n ++ [c] := by rw [List.take_add_one, hc]; rfl
    rw [h1] at hd ⊢
    rw [List.all_append, Bool.and_eq_true] at hd
    have h2 := ih (by omega) hd.1
    have h3 : c.toNat ≤ 57 := by
      have := hd.2
      unfold digB at this
      simp at this
      omega
    rw [decV_snoc, Nat.pow_succ]
    omega

def DgI (w0 : World) (l : List UInt8) (a g4 g7 : Nat) (ac : Act) (w : World) : Prop :=
  ∃ k : Nat, Sl 260 [(0, .string (str l)), (1, .int .i64 a), (4, .pointer (some ⟨g4, 0, none⟩)), (5, .int .i64 0), (7, .pointer (some ⟨g7, 0, none⟩)), (9, .int .i64 ((a : Int) + k))] ac ∧
    TW w0 w g4 g7 ⟨0, [], decV ((l.drop a).take k)⟩ a ∧ k ≤ runL digB (l.drop a) ∧ k ≤ 9

theorem runL_stop {p : UInt8 → Bool} {d : List UInt8} {k : Nat} {c : UInt8} (hk : k ≤ runL p d) (hc : d[k]? = some c) (h : p c = false) : runL p d = k := by
  rcases Nat.lt_or_eq_of_le hk with h1 | h1
  · have := runL_all p d k c h1 hc
    rw [h] at this
    cases this
  · exact h1.symm
theorem runL_step {p : UInt8 → Bool} {d : List UInt8} {k : Nat} {c : UInt8} (hk : k ≤ runL p d) (hc : d[k]? = some c) (h : p c = true) : k + 1 ≤ runL p d := by
  rcases Nat.lt_or_eq_of_le hk with h1 | h1
  · exact h1
  · have := runL_end p d c (by rw [← h1]; exact hc)
    rw [h] at this
    cases this

set_option maxHeartbeats 1600000 in
set_option maxRecDepth 100000 in
theorem rtok_dtail {l : List UInt8} {a k : Nat} {w0 w : World} {ac : Act} {g4 g7 : Nat}
    (HF : Sl 260 [(0, .string (str l)), (1, .int .i64 a), (4, .pointer (some ⟨g4, 0, none⟩)), (5, .int .i64 0), (7, .pointer (some ⟨g7, 0, none⟩)), (9, .int .i64 ((a : Int) + k))] ac)
    (HT : Hid (TW w0 w g4 g7 ⟨0, [], decV ((l.drop a).take k)⟩ a)) (HX : Hid (tokL (l.drop a) = some (⟨4, [], decV ((l.drop a).take k)⟩, k))) :
    (part [1, 1, 1, 1, 0, 1, 0, 1, 1] rtBody).wp Tryz.prog (RetP (bodyPost Tryz.prog Tryz.f16 (fun e w' => RTok l a w0 e w'))) ac w := by
  conv => arg 2; whnf
  refine wp_seq (wp_region_lit ?_)
  obtain ⟨f0, f1, f2, f3, q0, q1, q2⟩ := HT.out.facts
  refine sl_op HF rfl rfl (by decide) ?_; intro K hK; have e7 := HF.see 7 rfl; go_wp2_with fail; clear e7 HF; intro _ HF
  refine sl_op0 HF rfl rfl ?_; intro K hK; have e95 := HF.see 95 rfl; go_wp2_with fail; clear e95 HF; intro _ HF
  refine sl_nil (wp_seq (wp_region_lit ?_))
  have h1 := HT.out.set0 4
  clear f0 f1 f2 f3 q0 q1 q2
  generalize World.setCell w ⟨g7, 0, none⟩ (.int .i64 4) = w3 at h1 ⊢
  have H1 := Lib.hid h1
  obtain ⟨f0, f1, f2, f3, q0, q1, q2⟩ := h1.facts
  obtain ⟨k0, k1, k2, k3, m0, m1, m2, m3⟩ := h1.facts4
  clear h1
  refine sl_op HF rfl rfl (by decide) ?_; intro K hK; have e7 := HF.see 7 rfl; go_wp2_with fail; clear e7 HF; intro _ HF
  refine sl_move HF rfl rfl (.inl rfl) (by decide) rfl ?_; clear HF; intro _ HF
  refine sl_op0 HF rfl rfl ?_; intro K hK; have e4 := HF.see 4 rfl; have e96 := HF.see 96 rfl; go_wp2_with fail; clear e4 e96 HF; intro _ HF
  refine sl_move HF rfl rfl (.inr rfl) (by decide) rfl ?_; clear HF; intro _ HF
  refine sl_nil (wp_ret ?_)
  exact RetP.mk rfl (rtok_end (t := ⟨4, [], decV ((l.drop a).take k)⟩) HF rfl rfl H1.out (fun t' k' h => by rw [HX.out] at h; cases h; exact ⟨rfl, by simp⟩) (fun h => by rw [HX.out] at h; cases h))

set_option maxHeartbeats 3200000 in
set_option maxRecDepth 100000 in
theorem rtok_digit {l : List UInt8} {a : Nat} {w0 w : World} {ac : Act} {g4 g7 : Nat} {c : UInt8}
    (HF : Sl 260 [(0, .string (str l)), (1, .int .i64 a), (4, .pointer (some ⟨g4, 0, none⟩)), (5, .int .i64 0), (6, .int .u8 c.toNat), (7, .pointer (some ⟨g7, 0, none⟩))] ac)
    (hl : l.length ≤ 5000) (hc : l[a]? = some c) (hlet : letB c = false) (hdg : digB c = true) (h : TW w0 w g4 g7 ⟨0, [], 0⟩ a) :
    (part [1, 1, 1, 1, 0, 1, 0] rtBody).wp Tryz.prog (RetP (bodyPost Tryz.prog Tryz.f16 (fun e w' => RTok l a w0 e w'))) ac w := by
  have hsz := str_size l
  have hal := (List.getElem?_eq_some_iff.1 hc).1
  have hd : l.drop a = c :: l.drop (a + 1) := by rw [List.drop_eq_getElem_cons hal, (List.getElem?_eq_some_iff.1 hc).2]
  have HTOK := Lib.hid (show tokL (l.drop a) = if 9 < runL digB (l.drop a) then none else some (⟨4, [], decV ((l.drop a).take (runL digB (l.drop a)))⟩, runL digB (l.drop a)) by
    rw [hd, tokL, hlet, hdg]; rfl)
  have HT := Lib.hid h
  clear h hlet hc hdg hd
  conv => arg 2; whnf
  refine wp_seq (wp_region_lit ?_)
  refine sl_move HF rfl rfl (.inl rfl) (by decide) rfl ?_; clear HF; intro _ HF
  refine sl_move HF rfl rfl (.inr rfl) (by decide) rfl ?_; clear HF; intro _ HF
  refine sl_nil (wp_seq (wp_block (wp_loop (DgI w0 l a g4 g7) (fun ac _ => l.length - (intOf (ac.eval (.tmp 9))).toNat) ?_ ?_)))
  · refine ⟨0, ?_, by rw [List.take_zero]; exact HT.out, Nat.zero_le _, by omega⟩
    rw [show ((a : Int) + ((0 : Nat) : Int)) = a by simp]
    exact HF.keep [0, 1, 4, 5, 7, 9]
  · clear HF HT
    rintro ac2 w2 ⟨k, HF, hT, hk, hk9⟩
    have hmu : l.length - (intOf ((ac2.tmps[9]?).getD undef)).toNat = l.length - (a + k) := by rw [HF.see 9 rfl]; simp [intOf]; omega
    have HMU := Lib.hid hmu
    have HT := Lib.hid hT
    clear hmu hT
    have hrl := runL_le digB (l.drop a)
    rw [List.length_drop] at hrl
    rcases hx : l[a + k]? with _ | d
    · have hge : decide ((a : Int) + k < l.length) = false := by
        have := List.getElem?_eq_none_iff.1 hx
        simp
        omega
      have HK := Lib.hid (show runL digB (l.drop a) = k by have := List.getElem?_eq_none_iff.1 hx; omega)
      clear hx
      refine wp_seq (wp_seq (wp_region_lit ?_))
      refine sl_move HF rfl rfl (.inl rfl) (by decide) rfl ?_; clear HF; intro _ HF
      refine sl_move HF rfl rfl (.inl rfl) (by decide) rfl ?_; clear HF; intro _ HF
      refine sl_op HF rfl rfl (by decide) ?_; intro K hK; have e69 := HF.see 69 rfl; go_wp2_with fail; clear e69 HF; intro _ HF
      refine sl_op HF rfl rfl (by decide) ?_; intro K hK; have e68 := HF.see 68 rfl; have e70 := HF.see 70 rfl; go_wp2_with fail; clear e68 e70 HF; intro _ HF
      refine sl_move HF rfl rfl (.inl rfl) (by decide) rfl ?_; clear HF; intro _ HF
      refine sl_skip HF rfl rfl rfl rfl (by decide) ?_; clear HF; intro _ HF
      refine sl_skip HF rfl rfl rfl rfl (by decide) ?_; clear HF; intro _ HF
      refine sl_skip HF rfl rfl rfl rfl (by decide) ?_; clear HF; intro _ HF
      refine sl_skip HF rfl rfl rfl rfl (by decide) ?_; clear HF; intro _ HF
      refine sl_op HF rfl rfl (by decide) ?_; intro K hK; have e72 := HF.see 72 rfl; have e76 := HF.see 76 rfl; go_wp2_with fail; clear e72 e76 HF; intro _ HF
      refine sl_nil (wp_cond_false (HF.at 77 rfl) (wp_exit ?_))
      dsimp only [Exit.then]
      refine sl_exit (sl_then ?_)
      exact rtok_dtail (HF.keep [0, 1, 4, 5, 7, 9]) HT (Lib.hid (by rw [HTOK.out, HK.out, if_neg (by omega)]))
    · have hlt := (List.getElem?_eq_some_iff.1 hx).1
      have hg := str_getE hx (by omega)
      have hlt' : decide ((a : Int) + k < l.length) = true := by simp; omega
      have HDA := Lib.hid (show (l.drop a)[k]? = some d by rw [List.getElem?_drop]; exact hx)
      clear hx
      refine wp_seq (wp_seq (wp_region_lit ?_))
      refine sl_move HF rfl rfl (.inl rfl) (by decide) rfl ?_; clear HF; intro _ HF
      refine sl_move HF rfl rfl (.inl rfl) (by decide) rfl ?_; clear HF; intro _ HF
      refine sl_op HF rfl rfl (by decide) ?_; intro K hK; have e69 := HF.see 69 rfl; go_wp2_with fail; clear e69 HF; intro _ HF
      refine sl_op HF rfl rfl (by decide) ?_; intro K hK; have e68 := HF.see 68 rfl; have e70 := HF.see 70 rfl; go_wp2_with fail; clear e68 e70 HF; intro _ HF
      refine sl_move HF rfl rfl (.inl rfl) (by decide) rfl ?_; clear HF; intro _ HF
      refine sl_want HF rfl rfl rfl rfl (by decide) ?_; intro K hK; have e0 := HF.see 0 rfl; go_wp2_with fail; clear e0 HF; intro _ HF
      refine sl_want HF rfl rfl rfl rfl (by decide) ?_; intro K hK; have e9 := HF.see 9 rfl; go_wp2_with fail; clear e9 HF; intro _ HF
      refine sl_want HF rfl rfl rfl rfl (by decide) ?_; intro K hK; have e73 := HF.see 73 rfl; have e74 := HF.see 74 rfl; go_wp2_with fail; clear e73 e74 HF; intro _ HF
      refine sl_want HF rfl rfl rfl rfl (by decide) ?_; intro K hK; have e75 := HF.see 75 rfl; go_wp2_with fail
      refine (rDigit_any d _).mono ?_
      rintro e w3 ⟨rfl, rfl⟩
      rcases hdg : digB d with _ | _
      · have HK := Lib.hid (runL_stop hk HDA.out hdg)
        clear hdg
        go_wp2_with fail; clear e75 HF; intro _ HF
        refine sl_op HF rfl rfl (by decide) ?_; intro K hK; have e72 := HF.see 72 rfl; have e76 := HF.see 76 rfl; go_wp2_with fail; clear e72 e76 HF; intro _ HF
        refine sl_nil (wp_cond_false (HF.at 77 rfl) (wp_exit ?_))
        dsimp only [Exit.then]
        refine sl_exit (sl_then ?_)
        exact rtok_dtail (HF.keep [0, 1, 4, 5, 7, 9]) HT (Lib.hid (by rw [HTOK.out, HK.out, if_neg (by omega)]))
      · have HK := Lib.hid (runL_step hk HDA.out hdg)
        have hd48 : 48 ≤ d.toNat ∧ d.toNat ≤ 57 := by
          unfold digB at hdg
          simpa using hdg
        obtain ⟨N, hN⟩ : ∃ N, N = decV ((l.drop a).take k) := ⟨_, rfl⟩
        have hN9 : N ≤ 1000000000 := by
          have h1 := decV_lt (l.drop a) k (by rw [List.length_drop]; omega) (runL_take digB _ k hk)
          have h2 : 10 ^ k ≤ 10 ^ 9 := Nat.pow_le_pow_right (by decide) hk9
          rw [← hN] at h1
          omega
        have HN2 := Lib.hid (show decV ((l.drop a).take (k + 1)) = N * 10 + (d.toNat - 48) by
          rw [List.take_add_one, HDA.out, hN]
          exact decV_snoc _ _)
        rw [← hN] at HT
        clear hN hdg
        obtain ⟨hd1, hd2⟩ := hd48
        go_wp2_with fail; clear e75 HF; intro _ HF
        refine sl_op HF rfl rfl (by decide) ?_; intro K hK; have e72 := HF.see 72 rfl; have e76 := HF.see 76 rfl; go_wp2_with fail; clear e72 e76 HF; intro _ HF
        refine sl_nil (wp_cond_true (HF.at 77 rfl) (wp_skip (sl_then (wp_block (wp_seq ?_)))))
        obtain ⟨f0, f1, f2, f3, q0, q1, q2⟩ := HT.out.facts
        have F2 := Lib.hid f2
        have Q2 := Lib.hid q2
        clear f0 f1 f2 f3 q0 q1 q2
        apply sl_flow5 (N := 1) [some 78, some 79, some 80, some 81, some 82, some 83, some 84, some 85, some 86, some 87, none] [.quiet 0 0, .quiet 0 0, .quiet 0 0, .quiet 0 0, .quiet 0 0, .quiet 0 0, .quiet 0 0, .quiet 0 0, .quiet 0 0, .quiet 0 0, .writes 0] (PhSt w2.drew (w2.setCell ⟨g7, 2, none⟩ (.int .i64 ((N : Int) * 10 + d.toNat - 48))).drew) [_, _, _, _, _, _, _, _, _, _, (fun h => h 0)] HF
        case hm => kernel_rfl
        case hok => kernel_rfl
        case hfl => rfl
        case h0 => exact (PhSt.init _ _)
        case hobs =>
          apply And.intro
          · apply ob_quiet
            case hg => rfl
            case hop =>
              intro ax wx h k hlo hhi hP hk K hK
              have e7 := hk.see 7 rfl rfl
              clear hk
              obtain rfl : wx = w2.drew := hP.s0 (by omega)
              go_wp2_with fail
              all_goals first | exact hP | rfl
            case hst => exact fun h h' e => rfl
          apply And.intro
          · apply ob_quiet
            case hg => rfl
            case hop =>
              intro ax wx h k hlo hhi hP hk K hK
              have e78 := hk.see 78 rfl rfl
              clear hk
              obtain rfl : wx = w2.drew := hP.s0 (by omega)
              have kx := F2.out
              go_wp2_with fail
              all_goals first | exact hP | rfl
            case hst => exact fun h h' e => rfl
          apply And.intro
          · apply ob_quiet
            case hg => rfl
            case hop =>
              intro ax wx h k hlo hhi hP hk K hK
              have e79 := hk.see 79 rfl rfl
              clear hk
              obtain rfl : wx = w2.drew := hP.s0 (by omega)
              go_wp2_with fail
              all_goals first | exact hP | rfl
            case hst => exact fun h h' e => rfl
          apply And.intro
          · apply ob_quiet
            case hg => rfl
            case hop =>
              intro ax wx h k hlo hhi hP hk K hK
              have e0 := hk.see 0 rfl rfl
              clear hk
              go_wp2_with fail
              all_goals first | exact hP | rfl
            case hst => exact fun h h' e => rfl
          apply And.intro
          · apply ob_quiet
            case hg => rfl
            case hop =>
              intro ax wx h k hlo hhi hP hk K hK
              have e9 := hk.see 9 rfl rfl
              clear hk
              go_wp2_with fail
              all_goals first | exact hP | rfl
            case hst => exact fun h h' e => rfl
          apply And.intro
          · apply ob_quiet
            case hg => rfl
            case hop =>
              intro ax wx h k hlo hhi hP hk K hK
              have e81 := hk.see 81 rfl rfl
              have e82 := hk.see 82 rfl rfl
              clear hk
              obtain rfl : wx = w2.drew := hP.s0 (by omega)
              go_wp2_with fail
              all_goals first | exact hP | rfl
            case hst => exact fun h h' e => rfl
          apply And.intro
          · apply ob_quiet
            case hg => rfl
            case hop =>
              intro ax wx h k hlo hhi hP hk K hK
              have e83 := hk.see 83 rfl rfl
              clear hk
              obtain rfl : wx = w2.drew := hP.s0 (by omega)
              go_wp2_with fail
              all_goals first | exact hP | rfl
            case hst => exact fun h h' e => rfl
          apply And.intro
          · apply ob_quiet
            case hg => rfl
            case hop =>
              intro ax wx h k hlo hhi hP hk K hK
              have e80 := hk.see 80 rfl rfl
              have e84 := hk.see 84 rfl rfl
              clear hk
              obtain rfl : wx = w2.drew := hP.s0 (by omega)
              go_wp2_with fail
              all_goals first | exact hP | rfl
            case hst => exact fun h h' e => rfl
          apply And.intro
          · apply ob_quiet
            case hg => rfl
            case hop =>
              intro ax wx h k hlo hhi hP hk K hK
              have e85 := hk.see 85 rfl rfl
              clear hk
              obtain rfl : wx = w2.drew := hP.s0 (by omega)
              go_wp2_with fail
              all_goals first | exact hP | rfl
            case hst => exact fun h h' e => rfl
          apply And.intro
          · apply ob_quiet
            case hg => rfl
            case hop =>
              intro ax wx h k hlo hhi hP hk K hK
              have e7 := hk.see 7 rfl rfl
              clear hk
              obtain rfl : wx = w2.drew := hP.s0 (by omega)
              go_wp2_with fail
              all_goals first | exact hP | rfl
            case hst => exact fun h h' e => rfl
          refine And.intro (ob_writes rfl ?op) ?_
          case op =>
            intro ax wx h hP hk K hK
            have e87 := hk.see 87 rfl rfl
            have e86 := hk.see 86 rfl rfl
            clear hk
            obtain rfl : wx = w2.drew := hP.s0 rfl
            clear hP
            have kx := F2.out
            have ky := Q2.out
            go_wp2_with fail
            exact hK undef _ (PhSt.done _ _ _)
          exact trivial
        intro w3 a3 h3 hP HF
        obtain rfl := hP.s1 rfl
        have hT3 : TW w0 (World.setCell w2 ⟨g7, 2, none⟩ (.int .i64 ((N : Int) * 10 + d.toNat - 48))).drew g4 g7 ⟨0, [], decV ((l.drop a).take (k + 1))⟩ a := by
          have h4 := HT.out.set2 (N * 10 + (d.toNat - 48))
          rw [show ((N * 10 + (d.toNat - 48) : Nat) : Int) = (N : Int) * 10 + d.toNat - 48 by omega] at h4
          rw [HN2.out]
          exact h4.keep ((Mod.refl _ _).drew)
        have HT3 := Lib.hid hT3
        clear hT3 hP
        generalize (World.setCell w2 ⟨g7, 2, none⟩ (.int .i64 ((N : Int) * 10 + d.toNat - 48))).drew = w3 at HT3 ⊢
        refine sl_then (wp_seq (wp_region_lit ?_))
        refine sl_move HF rfl rfl (.inl rfl) (by decide) rfl ?_; clear HF; intro _ HF
        refine sl_op HF rfl rfl (by decide) ?_; intro K hK; have e88 := HF.see 88 rfl; go_wp2_with fail; clear e88 HF; intro _ HF
        refine sl_move HF rfl rfl (.inr rfl) (by decide) rfl ?_; clear HF; intro _ HF
        refine sl_nil (wp_seq (wp_region_lit ?_))
        by_cases h9 : k = 9
        · have hgt : decide (9 < (a : Int) + (k : Int) + 1 - a) = true := by simp; omega
          have HX := Lib.hid (show tokL (l.drop a) = none by have := HK.out; rw [HTOK.out, if_pos (by omega)])
          clear h9
          refine sl_move HF rfl rfl (.inl rfl) (by decide) rfl ?_; clear HF; intro _ HF
          refine sl_move HF rfl rfl (.inl rfl) (by decide) rfl ?_; clear HF; intro _ HF
          refine sl_op HF rfl rfl (by decide) ?_; intro K hK; have e90 := HF.see 90 rfl; have e91 := HF.see 91 rfl; go_wp2_with fail; clear e90 e91 HF; intro _ HF
          refine sl_op HF rfl rfl (by decide) ?_; intro K hK; have e92 := HF.see 92 rfl; go_wp2_with fail; clear e92 HF; intro _ HF
          refine sl_nil (wp_cond_true (HF.at 93 rfl) (wp_seq (wp_region_lit ?_)))
          obtain ⟨f0, f1, f2, f3, _, _, _⟩ := HT3.out.facts
          obtain ⟨k0, k1, k2, k3, m0, m1, m2, m3⟩ := HT3.out.facts4
          refine sl_op HF rfl rfl (by decide) ?_; intro K hK; have e7 := HF.see 7 rfl; go_wp2_with fail; clear e7 HF; intro _ HF
          refine sl_op0 HF rfl rfl ?_; intro K hK; have e4 := HF.see 4 rfl; have e94 := HF.see 94 rfl; go_wp2_with fail; clear e4 e94 HF; intro _ HF
          refine sl_const HF rfl rfl (.inr rfl) (by decide) ?_; clear HF; intro _ HF
          refine sl_nil (wp_ret ?_)
          try dsimp only [Exit.then]
          exact RetP.mk rfl (rtok_end (t := ⟨0, [], decV ((l.drop a).take (k + 1))⟩) HF rfl rfl HT3.out (fun t' k h => by rw [HX.out] at h; cases h) (fun _ => rfl))
        · have hgt : decide (9 < (a : Int) + (k : Int) + 1 - a) = false := by simp; omega
          refine sl_move HF rfl rfl (.inl rfl) (by decide) rfl ?_; clear HF; intro _ HF
          refine sl_move HF rfl rfl (.inl rfl) (by decide) rfl ?_; clear HF; intro _ HF
          refine sl_op HF rfl rfl (by decide) ?_; intro K hK; have e90 := HF.see 90 rfl; have e91 := HF.see 91 rfl; go_wp2_with fail; clear e90 e91 HF; intro _ HF
          refine sl_op HF rfl rfl (by decide) ?_; intro K hK; have e92 := HF.see 92 rfl; go_wp2_with fail; clear e92 HF; intro _ HF
          refine sl_nil (wp_cond_false (HF.at 93 rfl) (wp_skip ?_))
          dsimp only [Exit.then, Exit.inBlock]
          refine ⟨⟨k + 1, ?_, HT3.out, HK.out, by omega⟩, ?_⟩
          · have := HF.keep [0, 1, 4, 5, 7, 9]
            rw [show ((a : Int) + ((k + 1 : Nat) : Int)) = (a : Int) + k + 1 by omega]
            exact this
          · have e9 := HF.see 9 rfl
            try simp only [Act.eval_tmp]
            rw [HMU.out, e9]
            simp only [intOf]
            omega
end Go.Proofs.YtpjpmlhnhcmacaaGreatDoor
