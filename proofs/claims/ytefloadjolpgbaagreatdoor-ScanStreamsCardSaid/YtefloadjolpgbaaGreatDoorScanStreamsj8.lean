/- Parts of the proof of ScanStreams, joined: RnD Appd RnE. -/
import Derived.Test.YtefloadjolpgbaaGreatDoorScanStreamsj7
namespace Go.Proofs.YtefloadjolpgbaaGreatDoor
open Go.RowKit

theorem decV_snoc (l : List UInt8) (c : UInt8) : decV (l ++ [c]) = decV l * 10 + (c.toNat - 48) := by simp [decV]
theorem decV_lt (l : List UInt8) : ∀ n, n ≤ l.length → (l.take n).all digB = true → decV (l.take n) < 10 ^ n := by
  intro n
  induction n with
  | zero => intro _ _; simp [decV]
  | succ n ih =>
    intro h hd
    obtain ⟨c, hc⟩ : ∃ c, l[n]? = some c := ⟨_, List.getElem?_eq_getElem (by omega)⟩
    have h1 : l.take (n + 1) = l.take n ++ [c] := by rw [List.take_add_one, hc]; rfl
    rw [h1] at hd ⊢
    rw [List.all_append, Bool.and_eq_true] at hd
    have h2 := ih (by omega) hd.1
    have h3 : c.toNat ≤ 57 := by
      have := hd.2
      unfold digB at this
      simp at this
      omega
    rw [decV_snoc, Nat.pow_succ]
    omega

def DgI (w0 : World) (l : List UInt8) (a g4 g7 : Nat) (ac : Act) (w : World) : Prop :=
  ∃ k : Nat, Sl 260 [(0, .string (str l)), (1, .int .i64 a), (4, .pointer (some ⟨g4, 0, none⟩)), (5, .int .i64 0), (7, .pointer (some ⟨g7, 0, none⟩)), (9, .int .i64 ((a : Int) + k))] ac ∧
    TW w0 w g4 g7 ⟨0, [], decV ((l.drop a).take k)⟩ a ∧ k ≤ runL digB (l.drop a) ∧ k ≤ 9

theorem runL_stop {p : UInt8 → Bool} {d : List UInt8} {k : Nat} {c : UInt8} (hk : k ≤ runL p d) (hc : d[k]? = some c) (h : p c = false) : runL p d = k := by
  rcases Nat.lt_or_eq_of_le hk with h1 | h1
  · have := runL_all p d k c h1 hc
    rw [h] at this
    cases this
  · exact h1.symm
theorem runL_step {p : UInt8 → Bool} {d : List UInt8} {k : Nat} {c : UInt8} (hk : k ≤ runL p d) (hc : d[k]? = some c) (h : p c = true) : k + 1 ≤ runL p d := by
  rcases Nat.lt_or_eq_of_le hk with h1 | h1
  · exact h1
  · have := runL_end p d c (by rw [← h1]; exact hc)
    rw [h] at this
    cases this

set_option maxHeartbeats 1600000 in
set_option maxRecDepth 100000 in
theorem rtok_dtail {l : List UInt8} {a k : Nat} {w0 w : World} {ac : Act} {g4 g7 : Nat}
    (HF : Sl 260 [(0, .string (str l)), (1, .int .i64 a), (4, .pointer (some ⟨g4, 0, none⟩)), (5, .int .i64 0), (7, .pointer (some ⟨g7, 0, none⟩)), (9, .int .i64 ((a : Int) + k))] ac)
    (HT : Hid (TW w0 w g4 g7 ⟨0, [], decV ((l.drop a).take k)⟩ a)) (HX : Hid (tokL (l.drop a) = some (⟨4, [], decV ((l.drop a).take k)⟩, k))) :
    (part [1, 1, 1, 1, 0, 1, 0, 1, 1] rtBody).wp Tryz.prog (RetP (bodyPost Tryz.prog Tryz.f8 (fun e w' => RTok l a w0 e w'))) ac w := by
  conv => arg 2; whnf
  refine wp_seq (wp_region_lit ?_)
  obtain ⟨f0, f1, f2, f3, q0, q1, q2⟩ := HT.out.facts
  refine sl_op HF rfl rfl (by decide) ?_; intro K hK; have e7 := HF.see 7 rfl; go_wp2_with fail; clear e7 HF; intro _ HF
  refine sl_op0 HF rfl rfl ?_; intro K hK; have e95 := HF.see 95 rfl; go_wp2_with fail; clear e95 HF; intro _ HF
  refine sl_nil (wp_seq (wp_region_lit ?_))
  have h1 := HT.out.set0 4
  clear f0 f1 f2 f3 q0 q1 q2
  generalize World.setCell w ⟨g7, 0, none⟩ (.int .i64 4) = w3 at h1 ⊢
  have H1 := Lib.hid h1
  obtain ⟨f0, f1, f2, f3, q0, q1, q2⟩ := h1.facts
  obtain ⟨k0, k1, k2, k3, m0, m1, m2, m3⟩ := h1.facts4
  clear h1
  refine sl_op HF rfl rfl (by decide) ?_; intro K hK; have e7 := HF.see 7 rfl; go_wp2_with fail; clear e7 HF; intro _ HF
  refine sl_move HF rfl rfl (.inl rfl) (by decide) rfl ?_; clear HF; intro _ HF
  refine sl_op0 HF rfl rfl ?_; intro K hK; have e4 := HF.see 4 rfl; have e96 := HF.see 96 rfl; go_wp2_with fail; clear e4 e96 HF; intro _ HF
  refine sl_move HF rfl rfl (.inr rfl) (by decide) rfl ?_; clear HF; intro _ HF
  refine sl_nil (wp_ret ?_)
  exact RetP.mk rfl (rtok_end (t := ⟨4, [], decV ((l.drop a).take k)⟩) HF rfl rfl H1.out (fun t' k' h => by rw [HX.out] at h; cases h; exact ⟨rfl, by simp⟩) (fun h => by rw [HX.out] at h; cases h))

set_option maxHeartbeats 3200000 in
set_option maxRecDepth 100000 in
theorem rtok_digit {l : List UInt8} {a : Nat} {w0 w : World} {ac : Act} {g4 g7 : Nat} {c : UInt8}
    (HF : Sl 260 [(0, .string (str l)), (1, .int .i64 a), (4, .pointer (some ⟨g4, 0, none⟩)), (5, .int .i64 0), (6, .int .u8 c.toNat), (7, .pointer (some ⟨g7, 0, none⟩))] ac)
    (hl : l.length ≤ 5000) (hc : l[a]? = some c) (hlet : letB c = false) (hdg : digB c = true) (h : TW w0 w g4 g7 ⟨0, [], 0⟩ a) :
    (part [1, 1, 1, 1, 0, 1, 0] rtBody).wp Tryz.prog (RetP (bodyPost Tryz.prog Tryz.f8 (fun e w' => RTok l a w0 e w'))) ac w := by
  have hsz := str_size l
  have hal := (List.getElem?_eq_some_iff.1 hc).1
  have hd : l.drop a = c :: l.drop (a + 1) := by rw [List.drop_eq_getElem_cons hal, (List.getElem?_eq_some_iff.1 hc).2]
  have HTOK := Lib.hid (show tokL (l.drop a) = if 9 < runL digB (l.drop a) then none else some (⟨4, [], decV ((l.drop a).take (runL digB (l.drop a)))⟩, runL digB (l.drop a)) by
    rw [hd, tokL, hlet, hdg]; rfl)
  have HT := Lib.hid h
  clear h hlet hc hdg hd
  conv => arg 2; whnf
  refine wp_seq (wp_region_lit ?_)
  refine sl_move HF rfl rfl (.inl rfl) (by decide) rfl ?_; clear HF; intro _ HF
  refine sl_move HF rfl rfl (.inr rfl) (by decide) rfl ?_; clear HF; intro _ HF
  refine sl_nil (wp_seq (wp_block (wp_loop (DgI w0 l a g4 g7) (fun ac _ => l.length - (intOf (ac.eval (.tmp 9))).toNat) ?_ ?_)))
  · refine ⟨0, ?_, by rw [List.take_zero]; exact HT.out, Nat.zero_le _, by omega⟩
    rw [show ((a : Int) + ((0 : Nat) : Int)) = a by simp]
    exact HF.keep [0, 1, 4, 5, 7, 9]
  · clear HF HT
    rintro ac2 w2 ⟨k, HF, hT, hk, hk9⟩
    have hmu : l.length - (intOf ((ac2.tmps[9]?).getD undef)).toNat = l.length - (a + k) := by rw [HF.see 9 rfl]; simp [intOf]; omega
    have HMU := Lib.hid hmu
    have HT := Lib.hid hT
    clear hmu hT
    have hrl := runL_le digB (l.drop a)
    rw [List.length_drop] at hrl
    rcases hx : l[a + k]? with _ | d
    · have hge : decide ((a : Int) + k < l.length) = false := by
        have := List.getElem?_eq_none_iff.1 hx
        simp
        omega
      have HK := Lib.hid (show runL digB (l.drop a) = k by have := List.getElem?_eq_none_iff.1 hx; omega)
      clear hx
      refine wp_seq (wp_seq (wp_region_lit ?_))
      refine sl_move HF rfl rfl (.inl rfl) (by decide) rfl ?_; clear HF; intro _ HF
      refine sl_move HF rfl rfl (.inl rfl) (by decide) rfl ?_; clear HF; intro _ HF
      refine sl_op HF rfl rfl (by decide) ?_; intro K hK; have e69 := HF.see 69 rfl; go_wp2_with fail; clear e69 HF; intro _ HF
      refine sl_op HF rfl rfl (by decide) ?_; intro K hK; have e68 := HF.see 68 rfl; have e70 := HF.see 70 rfl; go_wp2_with fail; clear e68 e70 HF; intro _ HF
      refine sl_move HF rfl rfl (.inl rfl) (by decide) rfl ?_; clear HF; intro _ HF
      refine sl_skip HF rfl rfl rfl rfl (by decide) ?_; clear HF; intro _ HF
      refine sl_skip HF rfl rfl rfl rfl (by decide) ?_; clear HF; intro _ HF
      refine sl_skip HF rfl rfl rfl rfl (by decide) ?_; clear HF; intro _ HF
      refine sl_skip HF rfl rfl rfl rfl (by decide) ?_; clear HF; intro _ HF
      refine sl_op HF rfl rfl (by decide) ?_; intro K hK; have e72 := HF.see 72 rfl; have e76 := HF.see 76 rfl; go_wp2_with fail; clear e72 e76 HF; intro _ HF
      refine sl_nil (wp_cond_false (HF.at 77 rfl) (wp_exit ?_))
      dsimp only [Exit.then]
      refine sl_exit (sl_then ?_)
      exact rtok_dtail (HF.keep [0, 1, 4, 5, 7, 9]) HT (Lib.hid (by rw [HTOK.out, HK.out, if_neg (by omega)]))
    · have hlt := (List.getElem?_eq_some_iff.1 hx).1
      have hg := str_getE hx (by omega)
      have hlt' : decide ((a : Int) + k < l.length) = true := by simp; omega
      have HDA := Lib.hid (show (l.drop a)[k]? = some d by rw [List.getElem?_drop]; exact hx)
      clear hx
      refine wp_seq (wp_seq (wp_region_lit ?_))
      refine sl_move HF rfl rfl (.inl rfl) (by decide) rfl ?_; clear HF; intro _ HF
      refine sl_move HF rfl rfl (.inl rfl) (by decide) rfl ?_; clear HF; intro _ HF
      refine sl_op HF rfl rfl (by decide) ?_; intro K hK; have e69 := HF.see 69 rfl; go_wp2_with fail; clear e69 HF; intro _ HF
      refine sl_op HF rfl rfl (by decide) ?_; intro K hK; have e68 := HF.see 68 rfl; have e70 := HF.see 70 rfl; go_wp2_with fail; clear e68 e70 HF; intro _ HF
      refine sl_move HF rfl rfl (.inl rfl) (by decide) rfl ?_; clear HF; intro _ HF
      refine sl_want HF rfl rfl rfl rfl (by decide) ?_; intro K hK; have e0 := HF.see 0 rfl; go_wp2_with fail; clear e0 HF; intro _ HF
      refine sl_want HF rfl rfl rfl rfl (by decide) ?_; intro K hK; have e9 := HF.see 9 rfl; go_wp2_with fail; clear e9 HF; intro _ HF
      refine sl_want HF rfl rfl rfl rfl (by decide) ?_; intro K hK; have e73 := HF.see 73 rfl; have e74 := HF.see 74 rfl; go_wp2_with fail; clear e73 e74 HF; intro _ HF
      refine sl_want HF rfl rfl rfl rfl (by decide) ?_; intro K hK; have e75 := HF.see 75 rfl; go_wp2_with fail
      refine (rDigit_any d _).mono ?_
      rintro e w3 ⟨rfl, rfl⟩
      rcases hdg : digB d with _ | _
      · have HK := Lib.hid (runL_stop hk HDA.out hdg)
        clear hdg
        go_wp2_with fail; clear e75 HF; intro _ HF
        refine sl_op HF rfl rfl (by decide) ?_; intro K hK; have e72 := HF.see 72 rfl; have e76 := HF.see 76 rfl; go_wp2_with fail; clear e72 e76 HF; intro _ HF
        refine sl_nil (wp_cond_false (HF.at 77 rfl) (wp_exit ?_))
        dsimp only [Exit.then]
        refine sl_exit (sl_then ?_)
        exact rtok_dtail (HF.keep [0, 1, 4, 5, 7, 9]) HT (Lib.hid (by rw [HTOK.out, HK.out, if_neg (by omega)]))
      · have HK := Lib.hid (runL_step hk HDA.out hdg)
        have hd48 : 48 ≤ d.toNat ∧ d.toNat ≤ 57 := by
          unfold digB at hdg
          simpa using hdg
        obtain ⟨N, hN⟩ : ∃ N, N = decV ((l.drop a).take k) := ⟨_, rfl⟩
        have hN9 : N ≤ 1000000000 := by
          have h1 := decV_lt (l.drop a) k (by rw [List.length_drop]; omega) (runL_take digB _ k hk)
          have h2 : 10 ^ k ≤ 10 ^ 9 := Nat.pow_le_pow_right (by decide) hk9
          rw [← hN] at h1
          omega
        have HN2 := Lib.hid (show decV ((l.drop a).take (k + 1)) = N * 10 + (d.toNat - 48) by
          rw [List.take_add_one, HDA.out, hN]
          exact decV_snoc _ _)
        rw [← hN] at HT
        clear hN hdg
        obtain ⟨hd1, hd2⟩ := hd48
        go_wp2_with fail; clear e75 HF; intro _ HF
        refine sl_op HF rfl rfl (by decide) ?_; intro K hK; have e72 := HF.see 72 rfl; have e76 := HF.see 76 rfl; go_wp2_with fail; clear e72 e76 HF; intro _ HF
        refine sl_nil (wp_cond_true (HF.at 77 rfl) (wp_skip (sl_then (wp_block (wp_seq ?_)))))
        obtain ⟨f0, f1, f2, f3, q0, q1, q2⟩ := HT.out.facts
        have F2 := Lib.hid f2
        have Q2 := Lib.hid q2
        clear f0 f1 f2 f3 q0 q1 q2
        apply sl_flow5 (N := 1) [some 78, some 79, some 80, some 81, some 82, some 83, some 84, some 85, some 86, some 87, none] [.quiet 0 0, .quiet 0 0, .quiet 0 0, .quiet 0 0, .quiet 0 0, .quiet 0 0, .quiet 0 0, .quiet 0 0, .quiet 0 0, .quiet 0 0, .writes 0] (PhSt w2.drew (w2.setCell ⟨g7, 2, none⟩ (.int .i64 ((N : Int) * 10 + d.toNat - 48))).drew) [_, _, _, _, _, _, _, _, _, _, (fun h => h 0)] HF
        case hm => kernel_rfl
        case hok => kernel_rfl
        case hfl => rfl
        case h0 => exact (PhSt.init _ _)
        case hobs =>
          apply And.intro
          · apply ob_quiet
            case hg => rfl
            case hop =>
              intro ax wx h k hlo hhi hP hk K hK
              have e7 := hk.see 7 rfl rfl
              clear hk
              obtain rfl : wx = w2.drew := hP.s0 (by omega)
              go_wp2_with fail
              all_goals first | exact hP | rfl
            case hst => exact fun h h' e => rfl
          apply And.intro
          · apply ob_quiet
            case hg => rfl
            case hop =>
              intro ax wx h k hlo hhi hP hk K hK
              have e78 := hk.see 78 rfl rfl
              clear hk
              obtain rfl : wx = w2.drew := hP.s0 (by omega)
              have kx := F2.out
              go_wp2_with fail
              all_goals first | exact hP | rfl
            case hst => exact fun h h' e => rfl
          apply And.intro
          · apply ob_quiet
            case hg => rfl
            case hop =>
              intro ax wx h k hlo hhi hP hk K hK
              have e79 := hk.see 79 rfl rfl
              clear hk
              obtain rfl : wx = w2.drew := hP.s0 (by omega)
              go_wp2_with fail
              all_goals first | exact hP | rfl
            case hst => exact fun h h' e => rfl
          apply And.intro
          · apply ob_quiet
            case hg => rfl
            case hop =>
              intro ax wx h k hlo hhi hP hk K hK
              have e0 := hk.see 0 rfl rfl
              clear hk
              go_wp2_with fail
              all_goals first | exact hP | rfl
            case hst => exact fun h h' e => rfl
          apply And.intro
          · apply ob_quiet
            case hg => rfl
            case hop =>
              intro ax wx h k hlo hhi hP hk K hK
              have e9 := hk.see 9 rfl rfl
              clear hk
              go_wp2_with fail
              all_goals first | exact hP | rfl
            case hst => exact fun h h' e => rfl
          apply And.intro
          · apply ob_quiet
            case hg => rfl
            case hop =>
              intro ax wx h k hlo hhi hP hk K hK
              have e81 := hk.see 81 rfl rfl
              have e82 := hk.see 82 rfl rfl
              clear hk
              obtain rfl : wx = w2.drew := hP.s0 (by omega)
              go_wp2_with fail
              all_goals first | exact hP | rfl
            case hst => exact fun h h' e => rfl
          apply And.intro
          · apply ob_quiet
            case hg => rfl
            case hop =>
              intro ax wx h k hlo hhi hP hk K hK
              have e83 := hk.see 83 rfl rfl
              clear hk
              obtain rfl : wx = w2.drew := hP.s0 (by omega)
              go_wp2_with fail
              all_goals first | exact hP | rfl
            case hst => exact fun h h' e => rfl
          apply And.intro
          · apply ob_quiet
            case hg => rfl
            case hop =>
              intro ax wx h k hlo hhi hP hk K hK
              have e80 := hk.see 80 rfl rfl
              have e84 := hk.see 84 rfl rfl
              clear hk
              obtain rfl : wx = w2.drew := hP.s0 (by omega)
              go_wp2_with fail
              all_goals first | exact hP | rfl
            case hst => exact fun h h' e => rfl
          apply And.intro
          · apply ob_quiet
            case hg => rfl
            case hop =>
              intro ax wx h k hlo hhi hP hk K hK
              have e85 := hk.see 85 rfl rfl
              clear hk
              obtain rfl : wx = w2.drew := hP.s0 (by omega)
              go_wp2_with fail
              all_goals first | exact hP | rfl
            case hst => exact fun h h' e => rfl
          apply And.intro
          · apply ob_quiet
            case hg => rfl
            case hop =>
              intro ax wx h k hlo hhi hP hk K hK
              have e7 := hk.see 7 rfl rfl
              clear hk
              obtain rfl : wx = w2.drew := hP.s0 (by omega)
              go_wp2_with fail
              all_goals first | exact hP | rfl
            case hst => exact fun h h' e => rfl
          refine And.intro (ob_writes rfl ?op) ?_
          case op =>
            intro ax wx h hP hk K hK
            have e87 := hk.see 87 rfl rfl
            have e86 := hk.see 86 rfl rfl
            clear hk
            obtain rfl : wx = w2.drew := hP.s0 rfl
            clear hP
            have kx := F2.out
            have ky := Q2.out
            go_wp2_with fail
            exact hK undef _ (PhSt.done _ _ _)
          exact trivial
        intro w3 a3 h3 hP HF
        obtain rfl := hP.s1 rfl
        have hT3 : TW w0 (World.setCell w2 ⟨g7, 2, none⟩ (.int .i64 ((N : Int) * 10 + d.toNat - 48))).drew g4 g7 ⟨0, [], decV ((l.drop a).take (k + 1))⟩ a := by
          have h4 := HT.out.set2 (N * 10 + (d.toNat - 48))
          rw [show ((N * 10 + (d.toNat - 48) : Nat) : Int) = (N : Int) * 10 + d.toNat - 48 by omega] at h4
          rw [HN2.out]
          exact h4.keep ((Mod.refl _ _).drew)
        have HT3 := Lib.hid hT3
        clear hT3 hP
        generalize (World.setCell w2 ⟨g7, 2, none⟩ (.int .i64 ((N : Int) * 10 + d.toNat - 48))).drew = w3 at HT3 ⊢
        refine sl_then (wp_seq (wp_region_lit ?_))
        refine sl_move HF rfl rfl (.inl rfl) (by decide) rfl ?_; clear HF; intro _ HF
        refine sl_op HF rfl rfl (by decide) ?_; intro K hK; have e88 := HF.see 88 rfl; go_wp2_with fail; clear e88 HF; intro _ HF
        refine sl_move HF rfl rfl (.inr rfl) (by decide) rfl ?_; clear HF; intro _ HF
        refine sl_nil (wp_seq (wp_region_lit ?_))
        by_cases h9 : k = 9
        · have hgt : decide (9 < (a : Int) + (k : Int) + 1 - a) = true := by simp; omega
          have HX := Lib.hid (show tokL (l.drop a) = none by have := HK.out; rw [HTOK.out, if_pos (by omega)])
          clear h9
          refine sl_move HF rfl rfl (.inl rfl) (by decide) rfl ?_; clear HF; intro _ HF
          refine sl_move HF rfl rfl (.inl rfl) (by decide) rfl ?_; clear HF; intro _ HF
          refine sl_op HF rfl rfl (by decide) ?_; intro K hK; have e90 := HF.see 90 rfl; have e91 := HF.see 91 rfl; go_wp2_with fail; clear e90 e91 HF; intro _ HF
          refine sl_op HF rfl rfl (by decide) ?_; intro K hK; have e92 := HF.see 92 rfl; go_wp2_with fail; clear e92 HF; intro _ HF
          refine sl_nil (wp_cond_true (HF.at 93 rfl) (wp_seq (wp_region_lit ?_)))
          obtain ⟨f0, f1, f2, f3, _, _, _⟩ := HT3.out.facts
          obtain ⟨k0, k1, k2, k3, m0, m1, m2, m3⟩ := HT3.out.facts4
          refine sl_op HF rfl rfl (by decide) ?_; intro K hK; have e7 := HF.see 7 rfl; go_wp2_with fail; clear e7 HF; intro _ HF
          refine sl_op0 HF rfl rfl ?_; intro K hK; have e4 := HF.see 4 rfl; have e94 := HF.see 94 rfl; go_wp2_with fail; clear e4 e94 HF; intro _ HF
          refine sl_const HF rfl rfl (.inr rfl) (by decide) ?_; clear HF; intro _ HF
          refine sl_nil (wp_ret ?_)
          try dsimp only [Exit.then]
          exact RetP.mk rfl (rtok_end (t := ⟨0, [], decV ((l.drop a).take (k + 1))⟩) HF rfl rfl HT3.out (fun t' k h => by rw [HX.out] at h; cases h) (fun _ => rfl))
        · have hgt : decide (9 < (a : Int) + (k : Int) + 1 - a) = false := by simp; omega
          refine sl_move HF rfl rfl (.inl rfl) (by decide) rfl ?_; clear HF; intro _ HF
          refine sl_move HF rfl rfl (.inl rfl) (by decide) rfl ?_; clear HF; intro _ HF
          refine sl_op HF rfl rfl (by decide) ?_; intro K hK; have e90 := HF.see 90 rfl; have e91 := HF.see 91 rfl; go_wp2_with fail; clear e90 e91 HF; intro _ HF
          refine sl_op HF rfl rfl (by decide) ?_; intro K hK; have e92 := HF.see 92 rfl; go_wp2_with fail; clear e92 HF; intro _ HF
          refine sl_nil (wp_cond_false (HF.at 93 rfl) (wp_skip ?_))
          dsimp only [Exit.then, Exit.inBlock]
          refine ⟨⟨k + 1, ?_, HT3.out, HK.out, by omega⟩, ?_⟩
          · have := HF.keep [0, 1, 4, 5, 7, 9]
            rw [show ((a : Int) + ((k + 1 : Nat) : Int)) = (a : Int) + k + 1 by omega]
            exact this
          · have e9 := HF.see 9 rfl
            try simp only [Act.eval_tmp]
            rw [HMU.out, e9]
            simp only [intOf]
            omega
end Go.Proofs.YtefloadjolpgbaaGreatDoor

namespace Go.Proofs.YtefloadjolpgbaaGreatDoor
open Go.RowKit

theorem Rd.blk {w : World} {b : Nat} {t : TypeId} {cs : Array Value} (h : Blk w b t cs) : Rd All w (some ⟨b, 0, none⟩) cs.toList := fun _ =>
  ⟨_, rfl, trivial, h.lt, fun j u hu => by
    rw [show (⟨b, 0, none⟩ : Addr).add j = ⟨b, j, none⟩ by unfold Addr.add; split <;> simp_all, h.cell j]
    simpa using hu⟩

/-- What an append leaves. -/
structure Apd (base : Nat) (e : TypeId) (v : Value) (k : Nat) (ys : List Value) (A' : Option Addr) (c' : Nat) (w w' : World) : Prop where
  own : w'.ownsRow base e 1 (.slice A' k c') k ys
  mod : Mod (fun k => v.ownBlock = some k) w w'
  blk : ∀ j, (Value.slice A' k c').ownBlock = some j → v.ownBlock = some j ∨ w.heap.size ≤ j

theorem sl_append1 {P : Program} {n : Nat} {L : List (Tmp × Value)} {a : Act} {ops : Array Oper} {Q : Exit → Act → World → Prop} {w : World} {rest : List Oper} {o : Oper} {d : Tmp}
    (HF : Sl n L a) (hgd : o.guard = none) (hd : o.dst = some d) (hdn : d < n) {s x : Tmp} {t : TypeId} (ho : o.op = .call { callee := .builtin .append, args := #[.tmp s, .tmp x], argTypes := #[t, t] })
    {base : Nat} {e : TypeId} {i : TypeInfo} {z : Value} {bytes : Nat} (ht : P.underlying t = some (.slice e)) (hi : P.info? e = some i) (hz : i.zero = some z) (hsize : i.size = 1) (hby : i.bytes = bytes) (hzs : z.cells.size = 1)
    {v : Value} {k : Nat} {xs : List Value} (hs : look L s = some v) (hown : w.ownsRow base e 1 v k xs) {S : Nat → Prop} {A : Option Addr} {m c : Nat} {news : List Value} (hx : look L x = some (.slice A m c)) (hl : news.length = m) (hr : Rd S w A news)
    (h1 : ∀ u ∈ news, u.oneCell' = true) (hbytes : (k + m) * bytes ≤ 140737488355328) (h63 : k + m ≤ maxLen) (hbase : base ≤ w.heap.size)
    (hk : ∀ A' c' w' a', Sl n ((d, .slice A' (k + m) c') :: L) a' → Apd base e v (k + m) (xs ++ news) A' c' w w' → wpList P ops Q rest a' w') : wpList P ops Q (o :: rest) a w := by
  refine wpList_append1' (w := w) hgd (.tmp s) (.tmp x) t ho base e i z bytes ht hi hz hsize hby hzs v k xs (HF.at s hs) hown S A m c news (HF.at x hx) hl hr h1 hbytes h63 hbase fun A' c' w' h1 h2 h3 => ?_
  rw [hd]
  exact hk A' c' w' _ (HF.put hdn _) ⟨h1, h2, h3⟩
end Go.Proofs.YtefloadjolpgbaaGreatDoor

namespace Go.Proofs.YtefloadjolpgbaaGreatDoor
open Go.RowKit

/-- Behind some of a string's octets. -/
structure TsS (w0 : World) (l : List UInt8) (a g4 g7 B i : Nat) (out : List UInt8) (v : Value) (w : World) : Prop where
  tw : TW w0 w g4 g7 ⟨0, [], 0⟩ a
  own : w.ownsRow B 5 1 v out.length (out.map bv)
  big : B ≤ w.heap.size
  eq : txtL (l.drop (a + 1)) = (txtL (l.drop i)).map fun x => (out ++ x.1, x.2 + (i - (a + 1)))
  le : i ≤ l.length
  pos : a + 1 ≤ i
  olen : out.length ≤ i
  b4 : g4 < B
  b7 : g7 < B

theorem TW.app {w0 w w' : World} {g4 g7 a B : Nat} {t : Tok} {e : TypeId} {v : Value} {n : Nat} {xs : List Value} (h : TW w0 w g4 g7 t a) (ho : w.ownsRow B e 1 v n xs) (h4 : g4 < B) (h7 : g7 < B) (hm : Mod (fun k => v.ownBlock = some k) w w') : TW w0 w' g4 g7 t a :=
  ⟨h.b4.keep hm (fun hk => by have := (ho.lt _ hk).1; omega), h.b7.keep hm (fun hk => by have := (ho.lt _ hk).1; omega), h.ne, h.n4, h.n7,
    h.mod.trans' (H := Nil) hm (fun _ _ h => h) (fun k hk hv => absurd (ho.lt _ hv).1 (by have := h.n4; omega))⟩

theorem TsS.one {w0 : World} {l : List UInt8} {a g4 g7 B i : Nat} {out : List UInt8} {v : Value} {w w' : World} (h : TsS w0 l a g4 g7 B i out v w) {c : UInt8} (hc : l[i]? = some c) (hne : c ≠ 39) {A' : Option Addr} {c' : Nat} {o : Obj}
    (hd : Apd B 5 v (out.length + 1) (out.map bv ++ [bv c]) A' c' (w.alloc o) w') : TsS w0 l a g4 g7 B (i + 1) (out ++ [c]) (.slice A' (out.length + 1) c') w' := by
  have hlt := (List.getElem?_eq_some_iff.1 hc).1
  have hdr : l.drop i = c :: l.drop (i + 1) := by rw [List.drop_eq_getElem_cons hlt, (List.getElem?_eq_some_iff.1 hc).2]
  have hb := h.big
  have hm1 := (Mod.refl Nil w).alloc o
  refine ⟨(h.tw.keep hm1).app (own_keep h.own hm1 (fun _ _ => id)) h.b4 h.b7 hd.mod, by have := hd.own; simpa using this, Nat.le_trans hb (Nat.le_trans hm1.size hd.mod.size), ?_, hlt, by have := h.pos; omega, by have := h.olen; simp; omega, h.b4, h.b7⟩
  rw [h.eq, hdr, txtL_plain _ hne, Option.map_map]
  congr 1
  funext x
  have := h.pos
  simp
  omega
theorem TsS.two {w0 : World} {l : List UInt8} {a g4 g7 B i : Nat} {out : List UInt8} {v : Value} {w w' : World} (h : TsS w0 l a g4 g7 B i out v w) (hc : l[i]? = some 39) (hc2 : l[i + 1]? = some 39) {A' : Option Addr} {c' : Nat} {o : Obj}
    (hd : Apd B 5 v (out.length + 1) (out.map bv ++ [bv 39]) A' c' (w.alloc o) w') : TsS w0 l a g4 g7 B (i + 2) (out ++ [39]) (.slice A' (out.length + 1) c') w' := by
  have hlt := (List.getElem?_eq_some_iff.1 hc).1
  have hlt2 := (List.getElem?_eq_some_iff.1 hc2).1
  have hdr : l.drop i = 39 :: 39 :: l.drop (i + 2) := by rw [List.drop_eq_getElem_cons hlt, (List.getElem?_eq_some_iff.1 hc).2, List.drop_eq_getElem_cons hlt2, (List.getElem?_eq_some_iff.1 hc2).2]
  have hb := h.big
  have hm1 := (Mod.refl Nil w).alloc o
  refine ⟨(h.tw.keep hm1).app (own_keep h.own hm1 (fun _ _ => id)) h.b4 h.b7 hd.mod, by have := hd.own; simpa using this, Nat.le_trans hb (Nat.le_trans hm1.size hd.mod.size), ?_, by omega, by have := h.pos; omega, by have := h.olen; simp; omega, h.b4, h.b7⟩
  rw [h.eq, hdr, txtL_two, Option.map_map]
  congr 1
  funext x
  have := h.pos
  simp
  omega
theorem TsS.end_ {w0 : World} {l : List UInt8} {a g4 g7 B i : Nat} {out : List UInt8} {v : Value} {w : World} (h : TsS w0 l a g4 g7 B i out v w) (hc : l[i]? = some 39) (hc2 : l[i + 1]? ≠ some 39) : txtL (l.drop (a + 1)) = some (out, i - a) := by
  have hlt := (List.getElem?_eq_some_iff.1 hc).1
  have hd : l.drop i = 39 :: l.drop (i + 1) := by rw [List.drop_eq_getElem_cons hlt, (List.getElem?_eq_some_iff.1 hc).2]
  rw [h.eq, hd, txtL_end (by rw [List.getElem?_drop]; exact hc2)]
  have := h.pos
  simp
  omega
theorem TsS.none_ {w0 : World} {l : List UInt8} {a g4 g7 B i : Nat} {out : List UInt8} {v : Value} {w : World} (h : TsS w0 l a g4 g7 B i out v w) (hi : ¬ i < l.length) : txtL (l.drop (a + 1)) = none := by
  rw [h.eq, List.drop_eq_nil_of_le (by omega)]
  rfl
theorem TsS.slice {w0 : World} {l : List UInt8} {a g4 g7 B i : Nat} {out : List UInt8} {v : Value} {w : World} (h : TsS w0 l a g4 g7 B i out v w) : ∃ A c, v = .slice A out.length c := by
  obtain ⟨A, c, h1, _, _⟩ := own_slice h.own
  exact ⟨A, c, h1⟩

def TsI (w0 : World) (l : List UInt8) (a g4 g7 B : Nat) (ac : Act) (w : World) : Prop :=
  ∃ (i : Nat) (out : List UInt8) (A : Option Addr) (c : Nat), Sl 260 [(0, .string (str l)), (1, .int .i64 a), (4, .pointer (some ⟨g4, 0, none⟩)), (5, .int .i64 0), (7, .pointer (some ⟨g7, 0, none⟩)), (10, .slice A out.length c), (11, .int .i64 (i : Nat))] ac ∧
    TsS w0 l a g4 g7 B i out (.slice A out.length c) w

set_option maxHeartbeats 3200000 in
set_option maxRecDepth 100000 in
/-- The end of a string. -/
theorem rtok_stail {Q : Exit → Act → World → Prop} {l : List UInt8} {a g4 g7 B i c : Nat} {out : List UInt8} {A : Option Addr} {w0 w : World} {ac : Act}
    (HF : Sl 260 [(0, .string (str l)), (1, .int .i64 a), (4, .pointer (some ⟨g4, 0, none⟩)), (5, .int .i64 0), (7, .pointer (some ⟨g7, 0, none⟩)), (10, .slice A out.length c), (11, .int .i64 (i : Nat))] ac)
    (hl : l.length ≤ 5000) (HS : Hid (TsS w0 l a g4 g7 B i out (.slice A out.length c) w)) (hi : i < l.length) (HX : Hid (tokL (l.drop a) = some (⟨5, out, 0⟩, i - a + 1)))
    (hQ : ∀ ac' w', bodyPost Tryz.prog Tryz.f8 (fun e w' => RTok l a w0 e w') .ret ac' w' → Q .ret ac' w') :
    (part [1, 1, 1, 1, 1, 0, 1, 0, 1, 0, 1, 0, 0, 1, 0, 0, 0, 1, 0, 0, 1, 0] rtBody).wp Tryz.prog Q ac w := by
  have HQ := Lib.hid hQ
  clear hQ
  have hsz := str_size l
  have hpos := HS.out.pos
  conv => arg 2; whnf
  refine wp_seq (wp_region_lit ?_)
  obtain ⟨f0, f1, f2, f3, q0, q1, q2⟩ := HS.out.tw.facts
  refine sl_op HF rfl rfl (by decide) ?_; intro K hK; have e7 := HF.see 7 rfl; go_wp2_with fail; clear e7 HF; intro _ HF
  refine sl_op0 HF rfl rfl ?_; intro K hK; have e124 := HF.see 124 rfl; go_wp2_with fail; clear e124 HF; intro _ HF
  refine sl_nil (wp_seq (wp_region_lit ?_))
  have h1 := HS.out.tw.set0 5
  have hcv := conv_bytes (S := fun b => B ≤ b) (w := World.setCell w ⟨g7, 0, none⟩ (.int .i64 5)) (A := A) (l := out) (n := out.length) ((Rd.of_own HS.out.own).keep (F := fun b => b = g7) ((Mod.refl (fun b => b = g7) w).set (p := ⟨g7, 0, none⟩) (.inl rfl) _) (fun b hb he => by have := HS.out.b7; omega)) rfl c
  clear f0 f1 f2 f3 q0 q1 q2
  generalize World.setCell w ⟨g7, 0, none⟩ (.int .i64 5) = w3 at h1 hcv ⊢
  have H1 := Lib.hid h1
  obtain ⟨f0, f1, f2, f3, q0, q1, q2⟩ := h1.facts
  clear h1
  refine sl_move HF rfl rfl (.inl rfl) (by decide) rfl ?_; clear HF; intro _ HF
  refine sl_op HF rfl rfl (by decide) ?_; intro K hK; have e125 := HF.see 125 rfl; go_wp2_with fail; clear e125 HF; intro _ HF
  refine sl_op HF rfl rfl (by decide) ?_; intro K hK; have e7 := HF.see 7 rfl; go_wp2_with fail; clear e7 HF; intro _ HF
  refine sl_op0 HF rfl rfl ?_; intro K hK; have e127 := HF.see 127 rfl; have e126 := HF.see 126 rfl; go_wp2_with fail; clear e127 e126 HF; intro _ HF
  refine sl_nil (wp_seq (wp_region_lit ?_))
  have h1 := H1.out.set1 out
  clear f0 f1 f2 f3 q0 q1 q2 hcv
  generalize World.setCell w3 ⟨g7, 1, none⟩ (.string (str out)) = w4 at h1 ⊢
  have H2 := Lib.hid h1
  obtain ⟨f0, f1, f2, f3, q0, q1, q2⟩ := h1.facts
  obtain ⟨k0, k1, k2, k3, m0, m1, m2, m3⟩ := h1.facts4
  clear h1
  refine sl_op HF rfl rfl (by decide) ?_; intro K hK; have e7 := HF.see 7 rfl; go_wp2_with fail; clear e7 HF; intro _ HF
  refine sl_move HF rfl rfl (.inl rfl) (by decide) rfl ?_; clear HF; intro _ HF
  refine sl_op HF rfl rfl (by decide) ?_; intro K hK; have e129 := HF.see 129 rfl; go_wp2_with fail; clear e129 HF; intro _ HF
  refine sl_op0 HF rfl rfl ?_; intro K hK; have e4 := HF.see 4 rfl; have e128 := HF.see 128 rfl; go_wp2_with fail; clear e4 e128 HF; intro _ HF
  refine sl_move HF rfl rfl (.inr rfl) (by decide) rfl ?_; clear HF; intro _ HF
  refine sl_nil (wp_ret (HQ.out _ _ ?_))
  exact (rtok_end (t := ⟨5, out, 0⟩) HF rfl rfl H2.out (fun t' k' h => by rw [HX.out] at h; cases h; exact ⟨rfl, by omega⟩) (fun h => by rw [HX.out] at h; cases h))

set_option maxHeartbeats 3200000 in
set_option maxRecDepth 100000 in
/-- One octet more. -/
theorem rtok_sround {Q : Exit → Act → World → Prop} {l : List UInt8} {a g4 g7 B i c : Nat} {out : List UInt8} {A : Option Addr} {w : World} {ac : Act} {x : UInt8}
    (HF : Sl 260 [(0, .string (str l)), (1, .int .i64 a), (4, .pointer (some ⟨g4, 0, none⟩)), (5, .int .i64 0), (7, .pointer (some ⟨g7, 0, none⟩)), (10, .slice A out.length c), (11, .int .i64 (i : Nat))] ac)
    (HO : Hid (w.ownsRow B 5 1 (.slice A out.length c) out.length (out.map bv))) (hB : B ≤ w.heap.size) (holen : out.length ≤ 5000) (hx : l[i]? = some x)
    (hQ : ∀ ac' A' c' o w', Sl 260 [(0, .string (str l)), (1, .int .i64 a), (4, .pointer (some ⟨g4, 0, none⟩)), (5, .int .i64 0), (7, .pointer (some ⟨g7, 0, none⟩)), (10, .slice A' (out.length + 1) c'), (11, .int .i64 (i : Nat))] ac' →
      Apd B 5 (.slice A out.length c) (out.length + 1) (out.map bv ++ [bv x]) A' c' (w.alloc o) w' → Q .normal ac' w') :
    (part [1, 1, 1, 1, 1, 0, 1, 0, 1, 0, 1, 0, 0, 1, 0, 0, 1] rtBody).wp Tryz.prog Q ac w := by
  have HQ := Lib.hid hQ
  clear hQ
  have hsz := str_size l
  have hlt := (List.getElem?_eq_some_iff.1 hx).1
  have hg := str_getE hx (by omega)
  obtain ⟨i0, hi, hz0, hz1, hz2⟩ := info_parts u8_info
  have hu := u8_lt x
  clear hx
  conv => arg 2; whnf
  refine wp_region_lit ?_
  refine sl_move HF rfl rfl (.inl rfl) (by decide) rfl ?_; clear HF; intro _ HF
  refine sl_move HF rfl rfl (.inl rfl) (by decide) rfl ?_; clear HF; intro _ HF
  refine sl_move HF rfl rfl (.inl rfl) (by decide) rfl ?_; clear HF; intro _ HF
  refine sl_op HF rfl rfl (by decide) ?_; intro K hK; have e134 := HF.see 134 rfl; have e135 := HF.see 135 rfl; go_wp2_with fail; clear e134 e135 HF; intro _ HF
  refine sl_op HF rfl rfl (by decide) ?_; intro K hK; have e136 := HF.see 136 rfl; go_wp2_with fail; clear e136 HF; intro _ HF
  refine sl_append1 HF rfl rfl (by decide) rfl Tryz.underlying42 hi hz0 hz1 hz2 rfl rfl (own_keep HO.out ((Mod.refl Nil w).alloc _) (fun _ _ => id)) rfl (news := [bv x]) rfl (Rd.blk (Blk.new w _ _)) (by intro u hu; obtain rfl := List.mem_singleton.1 hu; rfl) (by omega) (by simp only [maxLen]; omega) (by simp; omega) ?_
  intro A' c' w4 a4 HF hap
  have HAP := Lib.hid hap
  clear hap
  refine sl_move HF rfl rfl (.inr rfl) (by decide) rfl ?_; clear HF; intro _ HF
  refine wpList_nil ?_
  exact HQ.out _ _ _ _ _ (HF.keep [0, 1, 4, 5, 7, 10, 11]) HAP.out

set_option maxHeartbeats 3200000 in
set_option maxRecDepth 100000 in
theorem rtok_text {l : List UInt8} {a : Nat} {w0 w : World} {ac : Act} {g4 g7 : Nat} {r : List UInt8}
    (HF : Sl 260 [(0, .string (str l)), (1, .int .i64 a), (4, .pointer (some ⟨g4, 0, none⟩)), (5, .int .i64 0), (6, .int .u8 39), (7, .pointer (some ⟨g7, 0, none⟩))] ac)
    (hl : l.length ≤ 5000) (hd : l.drop a = 39 :: r) (h : TW w0 w g4 g7 ⟨0, [], 0⟩ a) (hs4 : g4 < w.heap.size) (hs7 : g7 < w.heap.size) :
    (part [1, 1, 1, 1, 1, 0, 1, 0] rtBody).wp Tryz.prog (RetP (bodyPost Tryz.prog Tryz.f8 (fun e w' => RTok l a w0 e w'))) ac w := by
  have hsz := str_size l
  have hal : a + 1 ≤ l.length := by
    have := congrArg List.length hd
    rw [List.length_drop] at this
    simp at this
    omega
  have hr : l.drop (a + 1) = r := by rw [← List.drop_drop, hd]; rfl
  have HTOK := Lib.hid (show tokL (l.drop a) = (txtL (l.drop (a + 1))).map fun x => (⟨5, x.1, 0⟩, x.2 + 1) by
    rw [hd, hr]; rfl)
  have HT0 : TsS w0 l a g4 g7 w.heap.size (a + 1) [] (.slice none 0 0) w := ⟨h, World.ownsRow_nil _ _ _ _, Nat.le_refl _, by cases txtL (l.drop (a + 1)) <;> simp, hal, Nat.le_refl _, by simp, hs4, hs7⟩
  have HT := Lib.hid HT0
  generalize w.heap.size = B at HT
  clear h hd hr HT0 hs4 hs7
  conv => arg 2; whnf
  refine wp_seq (wp_region_lit ?_)
  refine sl_const HF rfl rfl (.inr rfl) (by decide) ?_; clear HF; intro _ HF
  refine sl_nil (wp_seq (wp_seq (wp_region_lit ?_)))
  refine sl_move HF rfl rfl (.inl rfl) (by decide) rfl ?_; clear HF; intro _ HF
  refine sl_op HF rfl rfl (by decide) ?_; intro K hK; have e100 := HF.see 100 rfl; go_wp2_with fail; clear e100 HF; intro _ HF
  refine sl_move HF rfl rfl (.inr rfl) (by decide) rfl ?_; clear HF; intro _ HF
  refine sl_nil ((wp_block (wp_loop (TsI w0 l a g4 g7 B) (fun ac _ => l.length - (intOf (ac.eval (.tmp 11))).toNat) ?_ ?_)))
  · exact ⟨a + 1, [], none, 0, by have := HF.keep [0, 1, 4, 5, 7, 10, 11]; rw [show (((a + 1 : Nat)) : Int) = (a : Int) + 1 by omega]; exact this, HT.out⟩
  · clear HF HT
    rintro ac2 w2 ⟨i, out, A, c, HF, hT⟩
    have hmu : l.length - (intOf ((ac2.tmps[11]?).getD undef)).toNat = l.length - i := by rw [HF.see 11 rfl]; simp [intOf]
    have HMU := Lib.hid hmu
    have HT := Lib.hid hT
    have hpos := hT.pos
    have hol := hT.olen
    have hle := hT.le
    clear hmu hT
    by_cases hi : i < l.length
    · obtain ⟨d, hx⟩ : ∃ d, l[i]? = some d := ⟨_, List.getElem?_eq_getElem hi⟩
      have hg := str_getE hx (by omega)
      have HDX := Lib.hid hx
      have hlt' : decide ((i : Int) < l.length) = true := by simp; omega
      refine wp_seq (wp_seq (wp_region_lit ?_))
      refine sl_move HF rfl rfl (.inl rfl) (by decide) rfl ?_; clear HF; intro _ HF
      refine sl_move HF rfl rfl (.inl rfl) (by decide) rfl ?_; clear HF; intro _ HF
      refine sl_op HF rfl rfl (by decide) ?_; intro K hK; have e103 := HF.see 103 rfl; go_wp2_with fail; clear e103 HF; intro _ HF
      refine sl_op HF rfl rfl (by decide) ?_; intro K hK; have e102 := HF.see 102 rfl; have e104 := HF.see 104 rfl; go_wp2_with fail; clear e102 e104 HF; intro _ HF
      refine sl_nil (wp_cond_true (HF.at 105 rfl) (wp_skip (sl_then (wp_seq (wp_block (wp_seq (wp_seq (wp_region_lit ?_))))))))
      clear hx
      by_cases h39 : d = 39
      · subst h39
        refine sl_move HF rfl rfl (.inl rfl) (by decide) rfl ?_; clear HF; intro _ HF
        refine sl_move HF rfl rfl (.inl rfl) (by decide) rfl ?_; clear HF; intro _ HF
        refine sl_op HF rfl rfl (by decide) ?_; intro K hK; have e108 := HF.see 108 rfl; have e109 := HF.see 109 rfl; go_wp2_with fail; clear e108 e109 HF; intro _ HF
        refine sl_op HF rfl rfl (by decide) ?_; intro K hK; have e110 := HF.see 110 rfl; go_wp2_with fail; clear e110 HF; intro _ HF
        refine sl_nil (wp_cond_true (HF.at 111 rfl) (wp_seq (wp_seq (wp_region_lit ?_))))
        by_cases hlast : i + 1 = l.length
        · have HX := Lib.hid (HT.out.end_ HDX.out (by rw [List.getElem?_eq_none_iff.2 (by omega)]; exact fun h => by cases h))
          have hl1 : ((i : Int) + 1 == (l.length : Int)) = true := by simp; omega
          clear hlast
          refine sl_move HF rfl rfl (.inl rfl) (by decide) rfl ?_; clear HF; intro _ HF
          refine sl_op HF rfl rfl (by decide) ?_; intro K hK; have e112 := HF.see 112 rfl; go_wp2_with fail; clear e112 HF; intro _ HF
          refine sl_move HF rfl rfl (.inl rfl) (by decide) rfl ?_; clear HF; intro _ HF
          refine sl_op HF rfl rfl (by decide) ?_; intro K hK; have e114 := HF.see 114 rfl; go_wp2_with fail; clear e114 HF; intro _ HF
          refine sl_op HF rfl rfl (by decide) ?_; intro K hK; have e113 := HF.see 113 rfl; have e115 := HF.see 115 rfl; go_wp2_with fail; clear e113 e115 HF; intro _ HF
          refine sl_move HF rfl rfl (.inl rfl) (by decide) rfl ?_; clear HF; intro _ HF
          refine sl_skip HF rfl rfl rfl rfl (by decide) ?_; clear HF; intro _ HF
          refine sl_skip HF rfl rfl rfl rfl (by decide) ?_; clear HF; intro _ HF
          refine sl_skip HF rfl rfl rfl rfl (by decide) ?_; clear HF; intro _ HF
          refine sl_skip HF rfl rfl rfl rfl (by decide) ?_; clear HF; intro _ HF
          refine sl_skip HF rfl rfl rfl rfl (by decide) ?_; clear HF; intro _ HF
          refine sl_op HF rfl rfl (by decide) ?_; intro K hK; have e117 := HF.see 117 rfl; have e122 := HF.see 122 rfl; go_wp2_with fail; clear e117 e122 HF; intro _ HF
          refine sl_nil (wp_cond_true (HF.at 123 rfl) ?_)
          exact rtok_stail (HF.keep [0, 1, 4, 5, 7, 10, 11]) hl HT hi (Lib.hid (by rw [HTOK.out, HX.out]; rfl)) (fun _ _ h => RetP.mk rfl h)
        · have hl1 : ((i : Int) + 1 == (l.length : Int)) = false := by simp; omega
          obtain ⟨e, he⟩ : ∃ d, l[i + 1]? = some d := ⟨_, List.getElem?_eq_getElem (by omega)⟩
          have hg2 := str_getE he (by omega)
          have HDE := Lib.hid he
          have hilt := (List.getElem?_eq_some_iff.1 he).1
          clear he
          by_cases h39 : e = 39
          · subst h39
            refine sl_move HF rfl rfl (.inl rfl) (by decide) rfl ?_; clear HF; intro _ HF
            refine sl_op HF rfl rfl (by decide) ?_; intro K hK; have e112 := HF.see 112 rfl; go_wp2_with fail; clear e112 HF; intro _ HF
            refine sl_move HF rfl rfl (.inl rfl) (by decide) rfl ?_; clear HF; intro _ HF
            refine sl_op HF rfl rfl (by decide) ?_; intro K hK; have e114 := HF.see 114 rfl; go_wp2_with fail; clear e114 HF; intro _ HF
            refine sl_op HF rfl rfl (by decide) ?_; intro K hK; have e113 := HF.see 113 rfl; have e115 := HF.see 115 rfl; go_wp2_with fail; clear e113 e115 HF; intro _ HF
            refine sl_move HF rfl rfl (.inl rfl) (by decide) rfl ?_; clear HF; intro _ HF
            refine sl_want HF rfl rfl rfl rfl (by decide) ?_; intro K hK; have e0 := HF.see 0 rfl; go_wp2_with fail; clear e0 HF; intro _ HF
            refine sl_want HF rfl rfl rfl rfl (by decide) ?_; intro K hK; have e11 := HF.see 11 rfl; go_wp2_with fail; clear e11 HF; intro _ HF
            refine sl_want HF rfl rfl rfl rfl (by decide) ?_; intro K hK; have e119 := HF.see 119 rfl; go_wp2_with fail; clear e119 HF; intro _ HF
            refine sl_want HF rfl rfl rfl rfl (by decide) ?_; intro K hK; have e118 := HF.see 118 rfl; have e120 := HF.see 120 rfl; go_wp2_with fail; clear e118 e120 HF; intro _ HF
            refine sl_want HF rfl rfl rfl rfl (by decide) ?_; intro K hK; have e121 := HF.see 121 rfl; go_wp2_with fail; clear e121 HF; intro _ HF
            refine sl_op HF rfl rfl (by decide) ?_; intro K hK; have e117 := HF.see 117 rfl; have e122 := HF.see 122 rfl; go_wp2_with fail; clear e117 e122 HF; intro _ HF
            refine sl_nil (wp_cond_false (HF.at 123 rfl) (wp_skip (sl_then (wp_region_lit ?_))))
            refine sl_move HF rfl rfl (.inl rfl) (by decide) rfl ?_; clear HF; intro _ HF
            refine sl_op HF rfl rfl (by decide) ?_; intro K hK; have e131 := HF.see 131 rfl; go_wp2_with fail; clear e131 HF; intro _ HF
            refine sl_move HF rfl rfl (.inr rfl) (by decide) rfl ?_; clear HF; intro _ HF
            refine wpList_nil (sl_then (sl_then ?_))
            have HF2 := HF.keep [0, 1, 4, 5, 7, 10, 11]
            rw [show (i : Int) + 1 = ((i + 1 : Nat) : Int) by omega] at HF2
            refine rtok_sround HF2 (Lib.hid HT.out.own) HT.out.big (by omega) HDE.out ?_
            intro ac3 A' c' o' w3 HF hap
            have HT3 := Lib.hid (HT.out.two HDX.out HDE.out hap)
            clear hap HF2
            refine sl_blk (wp_region_lit ?_)
            refine sl_move HF rfl rfl (.inl rfl) (by decide) rfl ?_; clear HF; intro _ HF
            refine sl_op HF rfl rfl (by decide) ?_; intro K hK; have e106 := HF.see 106 rfl; go_wp2_with fail; clear e106 HF; intro _ HF
            refine sl_move HF rfl rfl (.inr rfl) (by decide) rfl ?_; clear HF; intro _ HF
            refine wpList_nil ?_
            refine ⟨⟨i + 2, out ++ [39], A', c', ?_, ?_⟩, ?_⟩
            · have := HF.keep [0, 1, 4, 5, 7, 10, 11]
              rw [List.length_append, List.length_singleton, show ((i + 2 : Nat) : Int) = ((i + 1 : Nat) : Int) + 1 by omega]
              exact this
            · have := HT3.out
              rw [List.length_append, List.length_singleton]
              exact this
            · have e9 := HF.see 11 rfl
              try simp only [Act.eval_tmp]
              rw [HMU.out, e9]
              simp only [intOf]
              omega
          · have hne2 : ((e.toNat : Int) == 39) = false := ne_of_u8 h39
            have hne3 : ((e.toNat : Int) != 39) = true := by rw [bne, hne2]; rfl
            have HX := Lib.hid (HT.out.end_ HDX.out (by rw [HDE.out]; exact fun h => h39 (Option.some.inj h)))
            have hu := u8_lt e
            clear h39
            refine sl_move HF rfl rfl (.inl rfl) (by decide) rfl ?_; clear HF; intro _ HF
            refine sl_op HF rfl rfl (by decide) ?_; intro K hK; have e112 := HF.see 112 rfl; go_wp2_with fail; clear e112 HF; intro _ HF
            refine sl_move HF rfl rfl (.inl rfl) (by decide) rfl ?_; clear HF; intro _ HF
            refine sl_op HF rfl rfl (by decide) ?_; intro K hK; have e114 := HF.see 114 rfl; go_wp2_with fail; clear e114 HF; intro _ HF
            refine sl_op HF rfl rfl (by decide) ?_; intro K hK; have e113 := HF.see 113 rfl; have e115 := HF.see 115 rfl; go_wp2_with fail; clear e113 e115 HF; intro _ HF
            refine sl_move HF rfl rfl (.inl rfl) (by decide) rfl ?_; clear HF; intro _ HF
            refine sl_want HF rfl rfl rfl rfl (by decide) ?_; intro K hK; have e0 := HF.see 0 rfl; go_wp2_with fail; clear e0 HF; intro _ HF
            refine sl_want HF rfl rfl rfl rfl (by decide) ?_; intro K hK; have e11 := HF.see 11 rfl; go_wp2_with fail; clear e11 HF; intro _ HF
            refine sl_want HF rfl rfl rfl rfl (by decide) ?_; intro K hK; have e119 := HF.see 119 rfl; go_wp2_with fail; clear e119 HF; intro _ HF
            refine sl_want HF rfl rfl rfl rfl (by decide) ?_; intro K hK; have e118 := HF.see 118 rfl; have e120 := HF.see 120 rfl; go_wp2_with fail; clear e118 e120 HF; intro _ HF
            refine sl_want HF rfl rfl rfl rfl (by decide) ?_; intro K hK; have e121 := HF.see 121 rfl; go_wp2_with fail; clear e121 HF; intro _ HF
            refine sl_op HF rfl rfl (by decide) ?_; intro K hK; have e117 := HF.see 117 rfl; have e122 := HF.see 122 rfl; go_wp2_with fail; clear e117 e122 HF; intro _ HF
            refine sl_nil (wp_cond_true (HF.at 123 rfl) ?_)
            exact rtok_stail (HF.keep [0, 1, 4, 5, 7, 10, 11]) hl HT hi (Lib.hid (by rw [HTOK.out, HX.out]; rfl)) (fun _ _ h => RetP.mk rfl h)
      · have hne2 : ((d.toNat : Int) == 39) = false := ne_of_u8 h39
        have HNE := Lib.hid h39
        clear h39
        refine sl_move HF rfl rfl (.inl rfl) (by decide) rfl ?_; clear HF; intro _ HF
        refine sl_move HF rfl rfl (.inl rfl) (by decide) rfl ?_; clear HF; intro _ HF
        refine sl_op HF rfl rfl (by decide) ?_; intro K hK; have e108 := HF.see 108 rfl; have e109 := HF.see 109 rfl; go_wp2_with fail; clear e108 e109 HF; intro _ HF
        refine sl_op HF rfl rfl (by decide) ?_; intro K hK; have e110 := HF.see 110 rfl; go_wp2_with fail; clear e110 HF; intro _ HF
        refine sl_nil (wp_cond_false (HF.at 111 rfl) (wp_skip (sl_then ?_)))
        refine rtok_sround (HF.keep [0, 1, 4, 5, 7, 10, 11]) (Lib.hid HT.out.own) HT.out.big (by omega) HDX.out ?_
        intro ac3 A' c' o' w3 HF hap
        have HT3 := Lib.hid (HT.out.one HDX.out HNE.out hap)
        clear hap
        refine sl_blk (wp_region_lit ?_)
        refine sl_move HF rfl rfl (.inl rfl) (by decide) rfl ?_; clear HF; intro _ HF
        refine sl_op HF rfl rfl (by decide) ?_; intro K hK; have e106 := HF.see 106 rfl; go_wp2_with fail; clear e106 HF; intro _ HF
        refine sl_move HF rfl rfl (.inr rfl) (by decide) rfl ?_; clear HF; intro _ HF
        refine wpList_nil ?_
        refine ⟨⟨i + 1, out ++ [d], A', c', ?_, ?_⟩, ?_⟩
        · have := HF.keep [0, 1, 4, 5, 7, 10, 11]
          rw [List.length_append, List.length_singleton, show ((i + 1 : Nat) : Int) = (i : Int) + 1 by omega]
          exact this
        · have := HT3.out
          rw [List.length_append, List.length_singleton]
          exact this
        · have e9 := HF.see 11 rfl
          try simp only [Act.eval_tmp]
          rw [HMU.out, e9]
          simp only [intOf]
          omega
    · have HX := Lib.hid (HT.out.none_ hi)
      have hge : decide ((i : Int) < l.length) = false := by simp; omega
      refine wp_seq (wp_seq (wp_region_lit ?_))
      refine sl_move HF rfl rfl (.inl rfl) (by decide) rfl ?_; clear HF; intro _ HF
      refine sl_move HF rfl rfl (.inl rfl) (by decide) rfl ?_; clear HF; intro _ HF
      refine sl_op HF rfl rfl (by decide) ?_; intro K hK; have e103 := HF.see 103 rfl; go_wp2_with fail; clear e103 HF; intro _ HF
      refine sl_op HF rfl rfl (by decide) ?_; intro K hK; have e102 := HF.see 102 rfl; have e104 := HF.see 104 rfl; go_wp2_with fail; clear e102 e104 HF; intro _ HF
      refine sl_nil (wp_cond_false (HF.at 105 rfl) (wp_exit ?_))
      dsimp only [Exit.then]
      refine sl_exit (sl_then (wp_seq (wp_region_lit ?_)))
      obtain ⟨f0, f1, f2, f3, _, _, _⟩ := HT.out.tw.facts
      obtain ⟨k0, k1, k2, k3, m0, m1, m2, m3⟩ := HT.out.tw.facts4
      refine sl_op HF rfl rfl (by decide) ?_; intro K hK; have e7 := HF.see 7 rfl; go_wp2_with fail; clear e7 HF; intro _ HF
      refine sl_op0 HF rfl rfl ?_; intro K hK; have e4 := HF.see 4 rfl; have e139 := HF.see 139 rfl; go_wp2_with fail; clear e4 e139 HF; intro _ HF
      refine sl_const HF rfl rfl (.inr rfl) (by decide) ?_; clear HF; intro _ HF
      refine sl_nil (wp_ret ?_)
      exact RetP.mk rfl (rtok_end (t := ⟨0, [], 0⟩) HF rfl rfl HT.out.tw (fun t' k h => by rw [HTOK.out, HX.out] at h; cases h) (fun _ => rfl))
end Go.Proofs.YtefloadjolpgbaaGreatDoor
