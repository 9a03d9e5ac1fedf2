/- Parts of the proof of CodeRunsUpto, joined: Crs. -/
import Derived.Test.YtefloadjolpgbaaDoorCodeRunsUptoj20
namespace Go.Proofs.YtefloadjolpgbaaDoor
open Go.RowKit

noncomputable def crnBody : Code := (Tryd.f3.body).getD .skip

set_option maxHeartbeats 3200000 in
set_option maxRecDepth 100000 in
theorem cr_step {Q : Exit → Act → World → Prop} {ac : Act} {w : World} {g2 g5 gx n i p nw cw : Nat} {adW : Addr} {hh : Int} {b : Bool} {x : InsT}
    (HF : Sl 131 [(1, .slice (some adW) nw cw), (2, .pointer (some ⟨g2, 0, none⟩)), (5, .slice (some ⟨g5, 0, none⟩) n n), (6, .int .i64 ((p : Int) + 1)), (7, .int .i64 hh), (8, .int .i64 (i : Nat)), (9, .pointer (some ⟨gx, 0, none⟩)), (67, .int .i64 x.op)] ac)
    (hx : Blk w gx 33 #[.int .i64 x.op, .int .i64 x.a, .int .i64 x.b]) (hfit : InsFit x) (ht : insTakes x ≤ hh) (h0 : 0 ≤ hh) (h4 : hh ≤ 4000) (hi : i < nw) (hnw : nw ≤ 100) (hcw : nw ≤ cw) (hcw2 : cw ≤ 9223372036854775807) (hw : w.cell? (adW.add i) = some (.bool b))
    (hRet : ∀ a', Sl 131 [(4, .bool true)] a' → Q .ret a' w)
    (hOk : ∀ a' (t : Int), Sl 131 [(1, .slice (some adW) nw cw), (2, .pointer (some ⟨g2, 0, none⟩)), (5, .slice (some ⟨g5, 0, none⟩) n n), (6, .int .i64 t), (7, .int .i64 (insNext x hh)), (8, .int .i64 (i : Nat))] a' → t ∈ goesL p x → Q .normal a' w) :
    (part [1, 1, 1, 1, 0, 1, 0, 0, 1, 0, 0, 1, 1, 1, 0, 1] crnBody).wp Tryd.prog Q ac w := by
  have HRET := Lib.hid hRet
  have HOK := Lib.hid hOk
  have i0 := hx.cell 0
  have i1 := hx.cell 1
  have i2 := hx.cell 2
  simp only [List.getElem?_toArray, List.getElem?_cons_zero, List.getElem?_cons_succ] at i0 i1 i2
  obtain ⟨o, xa, xb⟩ := x
  obtain ⟨hf0, hf1, hf2, hf3⟩ := hfit
  simp only at i0 i1 i2 hf0 hf1
  clear hRet hOk hx
  conv => arg 2; whnf
  refine wp_block (wp_seq (wp_seq (wp_region_lit ?_)))
  by_cases hpl : o ≠ 7 ∧ o ≠ 9 ∧ o ≠ 10 ∧ o ≠ 11 ∧ o ≠ 13 ∧ o ≠ 14 ∧ o ≠ 15 ∧ o ≠ 16 ∧ o ≠ 17 ∧ o ≠ 18 ∧ o ≠ 19
  · obtain ⟨n7, n9, n10, n11, n13, n14, n15, n16, n17, n18, n19⟩ := hpl
    have q7 : (o == 7) = false := by simp [n7]
    have q9 : (o == 9) = false := by simp [n9]
    have q10 : (o == 10) = false := by simp [n10]
    have q11 : (o == 11) = false := by simp [n11]
    have q13 : (o == 13) = false := by simp [n13]
    have q14 : (o == 14) = false := by simp [n14]
    have q15 : (o == 15) = false := by simp [n15]
    have q16 : (o == 16) = false := by simp [n16]
    have q17 : (o == 17) = false := by simp [n17]
    have q18 : (o == 18) = false := by simp [n18]
    have q19 : (o == 19) = false := by simp [n19]
    have HNXT := Lib.hid (show insNext ⟨o, xa, xb⟩ hh = hh + 1 by unfold insNext insTakes effPuts; simp only [n7, n9, n10, n11, n13, n14, n15, n16, n17, n18, n19, or_self, if_false]; omega)
    have HGO := Lib.hid (show (p : Int) + 1 ∈ goesL p ⟨o, xa, xb⟩ by unfold goesL; simp only [n7, n9, n10, n11, n13, n14, n15, n16, n17, n18, n19, or_self, if_false]; simp)
    clear n7 n9 n10 n11 n13 n14 n15 n16 n17 n18 n19 ht hf2 hf3
    refine sl_op HF rfl rfl (by decide) ?_; intro K hK; have e67 := HF.see 67 rfl; go_wp2_with fail; clear e67 HF; intro _ HF
    refine sl_move HF rfl rfl (.inr rfl) (by decide) rfl ?_; clear HF; intro _ HF
    refine sl_nil (wp_cond_false (HF.at 70 rfl) (wp_region_lit ?_))
    refine sl_op HF rfl rfl (by decide) ?_; intro K hK; have e67 := HF.see 67 rfl; go_wp2_with fail; clear e67 HF; intro _ HF
    refine sl_move HF rfl rfl (.inr rfl) (by decide) rfl ?_; clear HF; intro _ HF
    refine sl_nil (wp_cond_false (HF.at 70 rfl) (wp_seq (wp_seq (wp_region_lit ?_))))
    refine sl_op HF rfl rfl (by decide) ?_; intro K hK; have e67 := HF.see 67 rfl; go_wp2_with fail; clear e67 HF; intro _ HF
    refine sl_move HF rfl rfl (.inr rfl) (by decide) rfl ?_; clear HF; intro _ HF
    refine sl_nil (wp_cond_false (HF.at 75 rfl) (wp_region_lit ?_))
    refine sl_op HF rfl rfl (by decide) ?_; intro K hK; have e67 := HF.see 67 rfl; go_wp2_with fail; clear e67 HF; intro _ HF
    refine sl_move HF rfl rfl (.inr rfl) (by decide) rfl ?_; clear HF; intro _ HF
    refine sl_nil (wp_cond_false (HF.at 75 rfl) (wp_seq (wp_region_lit ?_)))
    refine sl_op HF rfl rfl (by decide) ?_; intro K hK; have e67 := HF.see 67 rfl; go_wp2_with fail; clear e67 HF; intro _ HF
    refine sl_move HF rfl rfl (.inr rfl) (by decide) rfl ?_; clear HF; intro _ HF
    refine sl_nil (wp_cond_false (HF.at 84 rfl) (wp_seq (wp_seq (wp_region_lit ?_))))
    refine sl_op HF rfl rfl (by decide) ?_; intro K hK; have e67 := HF.see 67 rfl; go_wp2_with fail; clear e67 HF; intro _ HF
    refine sl_move HF rfl rfl (.inr rfl) (by decide) rfl ?_; clear HF; intro _ HF
    refine sl_nil (wp_cond_false (HF.at 94 rfl) (wp_seq (wp_region_lit ?_)))
    refine sl_op HF rfl rfl (by decide) ?_; intro K hK; have e67 := HF.see 67 rfl; go_wp2_with fail; clear e67 HF; intro _ HF
    refine sl_move HF rfl rfl (.inr rfl) (by decide) rfl ?_; clear HF; intro _ HF
    refine sl_nil (wp_cond_false (HF.at 94 rfl) (wp_seq (wp_region_lit ?_)))
    refine sl_op HF rfl rfl (by decide) ?_; intro K hK; have e67 := HF.see 67 rfl; go_wp2_with fail; clear e67 HF; intro _ HF
    refine sl_move HF rfl rfl (.inr rfl) (by decide) rfl ?_; clear HF; intro _ HF
    refine sl_nil (wp_cond_false (HF.at 94 rfl) (wp_seq (wp_region_lit ?_)))
    refine sl_op HF rfl rfl (by decide) ?_; intro K hK; have e67 := HF.see 67 rfl; go_wp2_with fail; clear e67 HF; intro _ HF
    refine sl_move HF rfl rfl (.inr rfl) (by decide) rfl ?_; clear HF; intro _ HF
    refine sl_nil (wp_cond_false (HF.at 94 rfl) (wp_region_lit ?_))
    refine sl_op HF rfl rfl (by decide) ?_; intro K hK; have e67 := HF.see 67 rfl; go_wp2_with fail; clear e67 HF; intro _ HF
    refine sl_move HF rfl rfl (.inr rfl) (by decide) rfl ?_; clear HF; intro _ HF
    refine sl_nil (wp_cond_false (HF.at 94 rfl) (wp_seq (wp_region_lit ?_)))
    refine sl_op HF rfl rfl (by decide) ?_; intro K hK; have e67 := HF.see 67 rfl; go_wp2_with fail; clear e67 HF; intro _ HF
    refine sl_move HF rfl rfl (.inr rfl) (by decide) rfl ?_; clear HF; intro _ HF
    refine sl_nil (wp_cond_false (HF.at 123 rfl) (wp_region_lit ?_))
    refine sl_move HF rfl rfl (.inl rfl) (by decide) rfl ?_; clear HF; intro _ HF
    refine sl_op HF rfl rfl (by decide) ?_; intro K hK; have e68 := HF.see 68 rfl; go_wp2_with fail; clear e68 HF; intro _ HF
    refine sl_move HF rfl rfl (.inr rfl) (by decide) rfl ?_; clear HF; intro _ HF
    refine wpList_nil ?_
    dsimp only [Exit.then, Exit.inBlock]
    have HF2 := HF.keep [1, 2, 5, 6, 7, 8]
    simp only [pick, look] at HF2
    have HNX := HNXT.out
    refine HOK.out _ _ (by rw [HNX]; exact HF2) (HGO.out)
  · have hcs : o = 7 ∨ o = 9 ∨ o = 10 ∨ o = 11 ∨ o = 13 ∨ o = 14 ∨ o = 15 ∨ o = 16 ∨ o = 17 ∨ o = 18 ∨ o = 19 := by omega
    clear hpl
    rcases hcs with rfl | rfl | rfl | rfl | rfl | rfl | rfl | rfl | rfl | rfl | rfl
    · have HT := Lib.hid ht
      have HF3 := Lib.hid (And.intro hf2 hf3)
      clear ht hf2 hf3
      refine sl_op HF rfl rfl (by decide) ?_; intro K hK; have e67 := HF.see 67 rfl; go_wp2_with fail; clear e67 HF; intro _ HF
      refine sl_move HF rfl rfl (.inr rfl) (by decide) rfl ?_; clear HF; intro _ HF
      refine sl_nil (wp_cond_true (HF.at 70 rfl) (wp_skip (sl_then (wp_cond_true (HF.at 70 rfl) (wp_seq (wp_region_lit ?_))))))
      have HF2 := HF.keep [1, 2, 5, 6, 7, 8, 9]
      simp only [pick, look] at HF2
      clear HF
      have HF := HF2
      clear HF2
      have hq : decide (hh < 1) = false := by have := HT.out; unfold insTakes at this; simp at this; simp; omega
      refine sl_move HF rfl rfl (.inl rfl) (by decide) rfl ?_; clear HF; intro _ HF
      refine sl_op HF rfl rfl (by decide) ?_; intro K hK; have e73 := HF.see 73 rfl; go_wp2_with fail; clear e73 HF; intro _ HF
      refine sl_nil (wp_cond_false (HF.at 74 rfl) (wp_skip ?_))
      dsimp only [Exit.then, Exit.inBlock]
      have HF2 := HF.keep [1, 2, 5, 6, 7, 8]
      simp only [pick, look] at HF2
      have HNX := (show insNext ⟨7, xa, xb⟩ hh = hh by unfold insNext insTakes effPuts; simp)
      refine HOK.out _ _ (by rw [HNX]; exact HF2) (by unfold goesL; simp)
    · have HT := Lib.hid ht
      have HF3 := Lib.hid (And.intro hf2 hf3)
      clear ht hf2 hf3
      refine sl_op HF rfl rfl (by decide) ?_; intro K hK; have e67 := HF.see 67 rfl; go_wp2_with fail; clear e67 HF; intro _ HF
      refine sl_move HF rfl rfl (.inr rfl) (by decide) rfl ?_; clear HF; intro _ HF
      refine sl_nil (wp_cond_false (HF.at 70 rfl) (wp_region_lit ?_))
      refine sl_op HF rfl rfl (by decide) ?_; intro K hK; have e67 := HF.see 67 rfl; go_wp2_with fail; clear e67 HF; intro _ HF
      refine sl_move HF rfl rfl (.inr rfl) (by decide) rfl ?_; clear HF; intro _ HF
      refine sl_nil (wp_cond_true (HF.at 70 rfl) (wp_seq (wp_region_lit ?_)))
      have HF2 := HF.keep [1, 2, 5, 6, 7, 8, 9]
      simp only [pick, look] at HF2
      clear HF
      have HF := HF2
      clear HF2
      have hq : decide (hh < 1) = false := by have := HT.out; unfold insTakes at this; simp at this; simp; omega
      refine sl_move HF rfl rfl (.inl rfl) (by decide) rfl ?_; clear HF; intro _ HF
      refine sl_op HF rfl rfl (by decide) ?_; intro K hK; have e73 := HF.see 73 rfl; go_wp2_with fail; clear e73 HF; intro _ HF
      refine sl_nil (wp_cond_false (HF.at 74 rfl) (wp_skip ?_))
      dsimp only [Exit.then, Exit.inBlock]
      have HF2 := HF.keep [1, 2, 5, 6, 7, 8]
      simp only [pick, look] at HF2
      have HNX := (show insNext ⟨9, xa, xb⟩ hh = hh by unfold insNext insTakes effPuts; simp)
      refine HOK.out _ _ (by rw [HNX]; exact HF2) (by unfold goesL; simp)
    · have HT := Lib.hid ht
      have HF3 := Lib.hid (And.intro hf2 hf3)
      clear ht hf2 hf3
      refine sl_op HF rfl rfl (by decide) ?_; intro K hK; have e67 := HF.see 67 rfl; go_wp2_with fail; clear e67 HF; intro _ HF
      refine sl_move HF rfl rfl (.inr rfl) (by decide) rfl ?_; clear HF; intro _ HF
      refine sl_nil (wp_cond_false (HF.at 70 rfl) (wp_region_lit ?_))
      refine sl_op HF rfl rfl (by decide) ?_; intro K hK; have e67 := HF.see 67 rfl; go_wp2_with fail; clear e67 HF; intro _ HF
      refine sl_move HF rfl rfl (.inr rfl) (by decide) rfl ?_; clear HF; intro _ HF
      refine sl_nil (wp_cond_false (HF.at 70 rfl) (wp_seq (wp_seq (wp_region_lit ?_))))
      refine sl_op HF rfl rfl (by decide) ?_; intro K hK; have e67 := HF.see 67 rfl; go_wp2_with fail; clear e67 HF; intro _ HF
      refine sl_move HF rfl rfl (.inr rfl) (by decide) rfl ?_; clear HF; intro _ HF
      refine sl_nil (wp_cond_true (HF.at 75 rfl) (wp_skip (sl_then (wp_cond_true (HF.at 75 rfl) (wp_seq (wp_region_lit ?_))))))
      have HF2 := HF.keep [1, 2, 5, 6, 7, 8, 9]
      simp only [pick, look] at HF2
      clear HF
      have HF := HF2
      clear HF2
      have hxb : xb + 1 ≤ hh := by have := HT.out; unfold insTakes at this; simpa using this
      have hxb0 : 0 ≤ xb + 1 := by have := HF3.out.1; unfold insTakes at this; simpa using this
      have hq : decide (hh - xb < 1) = false := by simp; omega
      refine sl_move HF rfl rfl (.inl rfl) (by decide) rfl ?_; clear HF; intro _ HF
      refine sl_op HF rfl rfl (by decide) ?_; intro K hK; have e9 := HF.see 9 rfl; go_wp2_with fail; clear e9 HF; intro _ HF
      refine sl_op HF rfl rfl (by decide) ?_; intro K hK; have e79 := HF.see 79 rfl; go_wp2_with fail; clear e79 HF; intro _ HF
      refine sl_op HF rfl rfl (by decide) ?_; intro K hK; have e78 := HF.see 78 rfl; have e80 := HF.see 80 rfl; go_wp2_with fail; clear e78 e80 HF; intro _ HF
      refine sl_move HF rfl rfl (.inr rfl) (by decide) rfl ?_; clear HF; intro _ HF
      refine sl_nil (wp_seq (wp_region_lit ?_))
      refine sl_move HF rfl rfl (.inl rfl) (by decide) rfl ?_; clear HF; intro _ HF
      refine sl_op HF rfl rfl (by decide) ?_; intro K hK; have e82 := HF.see 82 rfl; go_wp2_with fail; clear e82 HF; intro _ HF
      refine sl_nil (wp_cond_false (HF.at 83 rfl) (wp_skip ?_))
      dsimp only [Exit.then, Exit.inBlock]
      have HF2 := HF.keep [1, 2, 5, 6, 7, 8]
      simp only [pick, look] at HF2
      have HNX := (show insNext ⟨10, xa, xb⟩ hh = hh - xb by unfold insNext insTakes effPuts; simp; omega)
      refine HOK.out _ _ (by rw [HNX]; exact HF2) (by unfold goesL; simp)
    · have HT := Lib.hid ht
      have HF3 := Lib.hid (And.intro hf2 hf3)
      clear ht hf2 hf3
      refine sl_op HF rfl rfl (by decide) ?_; intro K hK; have e67 := HF.see 67 rfl; go_wp2_with fail; clear e67 HF; intro _ HF
      refine sl_move HF rfl rfl (.inr rfl) (by decide) rfl ?_; clear HF; intro _ HF
      refine sl_nil (wp_cond_false (HF.at 70 rfl) (wp_region_lit ?_))
      refine sl_op HF rfl rfl (by decide) ?_; intro K hK; have e67 := HF.see 67 rfl; go_wp2_with fail; clear e67 HF; intro _ HF
      refine sl_move HF rfl rfl (.inr rfl) (by decide) rfl ?_; clear HF; intro _ HF
      refine sl_nil (wp_cond_false (HF.at 70 rfl) (wp_seq (wp_seq (wp_region_lit ?_))))
      refine sl_op HF rfl rfl (by decide) ?_; intro K hK; have e67 := HF.see 67 rfl; go_wp2_with fail; clear e67 HF; intro _ HF
      refine sl_move HF rfl rfl (.inr rfl) (by decide) rfl ?_; clear HF; intro _ HF
      refine sl_nil (wp_cond_false (HF.at 75 rfl) (wp_region_lit ?_))
      refine sl_op HF rfl rfl (by decide) ?_; intro K hK; have e67 := HF.see 67 rfl; go_wp2_with fail; clear e67 HF; intro _ HF
      refine sl_move HF rfl rfl (.inr rfl) (by decide) rfl ?_; clear HF; intro _ HF
      refine sl_nil (wp_cond_true (HF.at 75 rfl) (wp_seq (wp_region_lit ?_)))
      have HF2 := HF.keep [1, 2, 5, 6, 7, 8, 9]
      simp only [pick, look] at HF2
      clear HF
      have HF := HF2
      clear HF2
      have hxb : xb + 1 ≤ hh := by have := HT.out; unfold insTakes at this; simpa using this
      have hxb0 : 0 ≤ xb + 1 := by have := HF3.out.1; unfold insTakes at this; simpa using this
      have hq : decide (hh - xb < 1) = false := by simp; omega
      refine sl_move HF rfl rfl (.inl rfl) (by decide) rfl ?_; clear HF; intro _ HF
      refine sl_op HF rfl rfl (by decide) ?_; intro K hK; have e9 := HF.see 9 rfl; go_wp2_with fail; clear e9 HF; intro _ HF
      refine sl_op HF rfl rfl (by decide) ?_; intro K hK; have e79 := HF.see 79 rfl; go_wp2_with fail; clear e79 HF; intro _ HF
      refine sl_op HF rfl rfl (by decide) ?_; intro K hK; have e78 := HF.see 78 rfl; have e80 := HF.see 80 rfl; go_wp2_with fail; clear e78 e80 HF; intro _ HF
      refine sl_move HF rfl rfl (.inr rfl) (by decide) rfl ?_; clear HF; intro _ HF
      refine sl_nil (wp_seq (wp_region_lit ?_))
      refine sl_move HF rfl rfl (.inl rfl) (by decide) rfl ?_; clear HF; intro _ HF
      refine sl_op HF rfl rfl (by decide) ?_; intro K hK; have e82 := HF.see 82 rfl; go_wp2_with fail; clear e82 HF; intro _ HF
      refine sl_nil (wp_cond_false (HF.at 83 rfl) (wp_skip ?_))
      dsimp only [Exit.then, Exit.inBlock]
      have HF2 := HF.keep [1, 2, 5, 6, 7, 8]
      simp only [pick, look] at HF2
      have HNX := (show insNext ⟨11, xa, xb⟩ hh = hh - xb by unfold insNext insTakes effPuts; simp; omega)
      refine HOK.out _ _ (by rw [HNX]; exact HF2) (by unfold goesL; simp)
    · have HT := Lib.hid ht
      have HF3 := Lib.hid (And.intro hf2 hf3)
      clear ht hf2 hf3
      refine sl_op HF rfl rfl (by decide) ?_; intro K hK; have e67 := HF.see 67 rfl; go_wp2_with fail; clear e67 HF; intro _ HF
      refine sl_move HF rfl rfl (.inr rfl) (by decide) rfl ?_; clear HF; intro _ HF
      refine sl_nil (wp_cond_false (HF.at 70 rfl) (wp_region_lit ?_))
      refine sl_op HF rfl rfl (by decide) ?_; intro K hK; have e67 := HF.see 67 rfl; go_wp2_with fail; clear e67 HF; intro _ HF
      refine sl_move HF rfl rfl (.inr rfl) (by decide) rfl ?_; clear HF; intro _ HF
      refine sl_nil (wp_cond_false (HF.at 70 rfl) (wp_seq (wp_seq (wp_region_lit ?_))))
      refine sl_op HF rfl rfl (by decide) ?_; intro K hK; have e67 := HF.see 67 rfl; go_wp2_with fail; clear e67 HF; intro _ HF
      refine sl_move HF rfl rfl (.inr rfl) (by decide) rfl ?_; clear HF; intro _ HF
      refine sl_nil (wp_cond_false (HF.at 75 rfl) (wp_region_lit ?_))
      refine sl_op HF rfl rfl (by decide) ?_; intro K hK; have e67 := HF.see 67 rfl; go_wp2_with fail; clear e67 HF; intro _ HF
      refine sl_move HF rfl rfl (.inr rfl) (by decide) rfl ?_; clear HF; intro _ HF
      refine sl_nil (wp_cond_false (HF.at 75 rfl) (wp_seq (wp_region_lit ?_)))
      refine sl_op HF rfl rfl (by decide) ?_; intro K hK; have e67 := HF.see 67 rfl; go_wp2_with fail; clear e67 HF; intro _ HF
      refine sl_move HF rfl rfl (.inr rfl) (by decide) rfl ?_; clear HF; intro _ HF
      refine sl_nil (wp_cond_true (HF.at 84 rfl) (wp_seq (wp_region_lit ?_)))
      have HF2 := HF.keep [1, 2, 5, 6, 7, 8, 9]
      simp only [pick, look] at HF2
      clear HF
      have HF := HF2
      clear HF2
      have hxb : xa ≤ hh := by have := HT.out; unfold insTakes at this; simpa using this
      have hxb0 : 0 ≤ xa := by have := HF3.out.1; unfold insTakes at this; simpa using this
      have hq : decide (hh - xa < 0) = false := by simp; omega
      refine sl_move HF rfl rfl (.inl rfl) (by decide) rfl ?_; clear HF; intro _ HF
      refine sl_op HF rfl rfl (by decide) ?_; intro K hK; have e9 := HF.see 9 rfl; go_wp2_with fail; clear e9 HF; intro _ HF
      refine sl_op HF rfl rfl (by decide) ?_; intro K hK; have e87 := HF.see 87 rfl; go_wp2_with fail; clear e87 HF; intro _ HF
      refine sl_op HF rfl rfl (by decide) ?_; intro K hK; have e86 := HF.see 86 rfl; have e88 := HF.see 88 rfl; go_wp2_with fail; clear e86 e88 HF; intro _ HF
      refine sl_move HF rfl rfl (.inr rfl) (by decide) rfl ?_; clear HF; intro _ HF
      refine sl_nil (wp_seq (wp_seq (wp_region_lit ?_)))
      refine sl_move HF rfl rfl (.inl rfl) (by decide) rfl ?_; clear HF; intro _ HF
      refine sl_op HF rfl rfl (by decide) ?_; intro K hK; have e90 := HF.see 90 rfl; go_wp2_with fail; clear e90 HF; intro _ HF
      refine sl_nil (wp_cond_false (HF.at 91 rfl) (wp_skip (sl_then (wp_region_lit ?_))))
      refine sl_move HF rfl rfl (.inl rfl) (by decide) rfl ?_; clear HF; intro _ HF
      refine sl_op HF rfl rfl (by decide) ?_; intro K hK; have e92 := HF.see 92 rfl; go_wp2_with fail; clear e92 HF; intro _ HF
      refine sl_move HF rfl rfl (.inr rfl) (by decide) rfl ?_; clear HF; intro _ HF
      refine wpList_nil ?_
      dsimp only [Exit.then, Exit.inBlock]
      have HF2 := HF.keep [1, 2, 5, 6, 7, 8]
      simp only [pick, look] at HF2
      have HNX := (show insNext ⟨13, xa, xb⟩ hh = hh - xa + 1 by unfold insNext insTakes effPuts; simp)
      refine HOK.out _ _ (by rw [HNX]; exact HF2) (by unfold goesL; simp)
    · have HT := Lib.hid ht
      have HF3 := Lib.hid (And.intro hf2 hf3)
      clear ht hf2 hf3
      refine sl_op HF rfl rfl (by decide) ?_; intro K hK; have e67 := HF.see 67 rfl; go_wp2_with fail; clear e67 HF; intro _ HF
      refine sl_move HF rfl rfl (.inr rfl) (by decide) rfl ?_; clear HF; intro _ HF
      refine sl_nil (wp_cond_false (HF.at 70 rfl) (wp_region_lit ?_))
      refine sl_op HF rfl rfl (by decide) ?_; intro K hK; have e67 := HF.see 67 rfl; go_wp2_with fail; clear e67 HF; intro _ HF
      refine sl_move HF rfl rfl (.inr rfl) (by decide) rfl ?_; clear HF; intro _ HF
      refine sl_nil (wp_cond_false (HF.at 70 rfl) (wp_seq (wp_seq (wp_region_lit ?_))))
      refine sl_op HF rfl rfl (by decide) ?_; intro K hK; have e67 := HF.see 67 rfl; go_wp2_with fail; clear e67 HF; intro _ HF
      refine sl_move HF rfl rfl (.inr rfl) (by decide) rfl ?_; clear HF; intro _ HF
      refine sl_nil (wp_cond_false (HF.at 75 rfl) (wp_region_lit ?_))
      refine sl_op HF rfl rfl (by decide) ?_; intro K hK; have e67 := HF.see 67 rfl; go_wp2_with fail; clear e67 HF; intro _ HF
      refine sl_move HF rfl rfl (.inr rfl) (by decide) rfl ?_; clear HF; intro _ HF
      refine sl_nil (wp_cond_false (HF.at 75 rfl) (wp_seq (wp_region_lit ?_)))
      refine sl_op HF rfl rfl (by decide) ?_; intro K hK; have e67 := HF.see 67 rfl; go_wp2_with fail; clear e67 HF; intro _ HF
      refine sl_move HF rfl rfl (.inr rfl) (by decide) rfl ?_; clear HF; intro _ HF
      refine sl_nil (wp_cond_false (HF.at 84 rfl) (wp_seq (wp_seq (wp_region_lit ?_))))
      refine sl_op HF rfl rfl (by decide) ?_; intro K hK; have e67 := HF.see 67 rfl; go_wp2_with fail; clear e67 HF; intro _ HF
      refine sl_move HF rfl rfl (.inr rfl) (by decide) rfl ?_; clear HF; intro _ HF
      refine sl_nil (wp_cond_true (HF.at 94 rfl) (wp_skip (sl_then (wp_cond_true (HF.at 94 rfl) (wp_seq (wp_region_lit ?_))))))
      have HF2 := HF.keep [1, 2, 5, 6, 7, 8, 9]
      simp only [pick, look] at HF2
      clear HF
      have HF := HF2
      clear HF2
      have hxb : 1 ≤ hh := by have := HT.out; unfold insTakes at this; simpa using this
      have hq : decide (hh - 1 < 0) = false := by simp; omega
      refine sl_move HF rfl rfl (.inl rfl) (by decide) rfl ?_; clear HF; intro _ HF
      refine sl_op HF rfl rfl (by decide) ?_; intro K hK; have e100 := HF.see 100 rfl; go_wp2_with fail; clear e100 HF; intro _ HF
      refine sl_move HF rfl rfl (.inr rfl) (by decide) rfl ?_; clear HF; intro _ HF
      refine sl_nil (wp_seq (wp_seq (wp_region_lit ?_)))
      refine sl_move HF rfl rfl (.inl rfl) (by decide) rfl ?_; clear HF; intro _ HF
      refine sl_op HF rfl rfl (by decide) ?_; intro K hK; have e102 := HF.see 102 rfl; go_wp2_with fail; clear e102 HF; intro _ HF
      refine sl_nil (wp_cond_false (HF.at 103 rfl) (wp_skip (sl_then (wp_seq (wp_seq (wp_region_lit ?_))))))
      refine sl_op HF rfl rfl (by decide) ?_; intro K hK; have e9 := HF.see 9 rfl; go_wp2_with fail; clear e9 HF; intro _ HF
      refine sl_op HF rfl rfl (by decide) ?_; intro K hK; have e104 := HF.see 104 rfl; go_wp2_with fail; clear e104 HF; intro _ HF
      refine sl_op HF rfl rfl (by decide) ?_; intro K hK; have e105 := HF.see 105 rfl; go_wp2_with fail; clear e105 HF; intro _ HF
      refine sl_move HF rfl rfl (.inl rfl) (by decide) rfl ?_; clear HF; intro _ HF
      refine sl_want HF rfl rfl rfl rfl (by decide) ?_; intro K hK; have e9 := HF.see 9 rfl; go_wp2_with fail; clear e9 HF; intro _ HF
      refine sl_want HF rfl rfl rfl rfl (by decide) ?_; intro K hK; have e108 := HF.see 108 rfl; go_wp2_with fail; clear e108 HF; intro _ HF
      refine sl_want HF rfl rfl rfl rfl (by decide) ?_; intro K hK; have e109 := HF.see 109 rfl; go_wp2_with fail; clear e109 HF; intro _ HF
      refine sl_op HF rfl rfl (by decide) ?_; intro K hK; have e107 := HF.see 107 rfl; have e110 := HF.see 110 rfl; go_wp2_with fail; clear e107 e110 HF; intro _ HF
      refine sl_nil (wp_cond_false (HF.at 111 rfl) (wp_skip (sl_then (wp_seq (wp_region_lit ?_)))))
      have HF2 := HF.keep [1, 2, 5, 6, 7, 8, 9]
      simp only [pick, look] at HF2
      clear HF
      have HF := HF2
      clear HF2
      refine sl_op HF rfl rfl (by decide) ?_; intro K hK; have e9 := HF.see 9 rfl; go_wp2_with fail; clear e9 HF; intro _ HF
      refine sl_op HF rfl rfl (by decide) ?_; intro K hK; have e112 := HF.see 112 rfl; go_wp2_with fail; clear e112 HF; intro _ HF
      refine sl_op HF rfl rfl (by decide) ?_; intro K hK; have e113 := HF.see 113 rfl; go_wp2_with fail; clear e113 HF; intro _ HF
      refine sl_move HF rfl rfl (.inl rfl) (by decide) rfl ?_; clear HF; intro _ HF
      refine sl_skip HF rfl rfl rfl rfl (by decide) ?_; clear HF; intro _ HF
      refine sl_skip HF rfl rfl rfl rfl (by decide) ?_; clear HF; intro _ HF
      refine sl_skip HF rfl rfl rfl rfl (by decide) ?_; clear HF; intro _ HF
      refine sl_skip HF rfl rfl rfl rfl (by decide) ?_; clear HF; intro _ HF
      refine sl_op HF rfl rfl (by decide) ?_; intro K hK; have e115 := HF.see 115 rfl; have e119 := HF.see 119 rfl; go_wp2_with fail; clear e115 e119 HF; intro _ HF
      refine sl_nil (wp_cond_false (HF.at 120 rfl) (wp_skip ?_))
      dsimp only [Exit.then, Exit.inBlock]
      have HF2 := HF.keep [1, 2, 5, 6, 7, 8]
      simp only [pick, look] at HF2
      have HNX := (show insNext ⟨14, xa, xb⟩ hh = hh - 1 by unfold insNext insTakes effPuts; simp)
      refine HOK.out _ _ (by rw [HNX]; exact HF2) (by unfold goesL; simp)
    · have HT := Lib.hid ht
      have HF3 := Lib.hid (And.intro hf2 hf3)
      clear ht hf2 hf3
      refine sl_op HF rfl rfl (by decide) ?_; intro K hK; have e67 := HF.see 67 rfl; go_wp2_with fail; clear e67 HF; intro _ HF
      refine sl_move HF rfl rfl (.inr rfl) (by decide) rfl ?_; clear HF; intro _ HF
      refine sl_nil (wp_cond_false (HF.at 70 rfl) (wp_region_lit ?_))
      refine sl_op HF rfl rfl (by decide) ?_; intro K hK; have e67 := HF.see 67 rfl; go_wp2_with fail; clear e67 HF; intro _ HF
      refine sl_move HF rfl rfl (.inr rfl) (by decide) rfl ?_; clear HF; intro _ HF
      refine sl_nil (wp_cond_false (HF.at 70 rfl) (wp_seq (wp_seq (wp_region_lit ?_))))
      refine sl_op HF rfl rfl (by decide) ?_; intro K hK; have e67 := HF.see 67 rfl; go_wp2_with fail; clear e67 HF; intro _ HF
      refine sl_move HF rfl rfl (.inr rfl) (by decide) rfl ?_; clear HF; intro _ HF
      refine sl_nil (wp_cond_false (HF.at 75 rfl) (wp_region_lit ?_))
      refine sl_op HF rfl rfl (by decide) ?_; intro K hK; have e67 := HF.see 67 rfl; go_wp2_with fail; clear e67 HF; intro _ HF
      refine sl_move HF rfl rfl (.inr rfl) (by decide) rfl ?_; clear HF; intro _ HF
      refine sl_nil (wp_cond_false (HF.at 75 rfl) (wp_seq (wp_region_lit ?_)))
      refine sl_op HF rfl rfl (by decide) ?_; intro K hK; have e67 := HF.see 67 rfl; go_wp2_with fail; clear e67 HF; intro _ HF
      refine sl_move HF rfl rfl (.inr rfl) (by decide) rfl ?_; clear HF; intro _ HF
      refine sl_nil (wp_cond_false (HF.at 84 rfl) (wp_seq (wp_seq (wp_region_lit ?_))))
      refine sl_op HF rfl rfl (by decide) ?_; intro K hK; have e67 := HF.see 67 rfl; go_wp2_with fail; clear e67 HF; intro _ HF
      refine sl_move HF rfl rfl (.inr rfl) (by decide) rfl ?_; clear HF; intro _ HF
      refine sl_nil (wp_cond_false (HF.at 94 rfl) (wp_seq (wp_region_lit ?_)))
      refine sl_op HF rfl rfl (by decide) ?_; intro K hK; have e67 := HF.see 67 rfl; go_wp2_with fail; clear e67 HF; intro _ HF
      refine sl_move HF rfl rfl (.inr rfl) (by decide) rfl ?_; clear HF; intro _ HF
      refine sl_nil (wp_cond_true (HF.at 94 rfl) (wp_skip (sl_then (wp_cond_true (HF.at 94 rfl) (wp_seq (wp_region_lit ?_))))))
      have HF2 := HF.keep [1, 2, 5, 6, 7, 8, 9]
      simp only [pick, look] at HF2
      clear HF
      have HF := HF2
      clear HF2
      have hxb : 1 ≤ hh := by have := HT.out; unfold insTakes at this; simpa using this
      have hq : decide (hh - 1 < 0) = false := by simp; omega
      refine sl_move HF rfl rfl (.inl rfl) (by decide) rfl ?_; clear HF; intro _ HF
      refine sl_op HF rfl rfl (by decide) ?_; intro K hK; have e100 := HF.see 100 rfl; go_wp2_with fail; clear e100 HF; intro _ HF
      refine sl_move HF rfl rfl (.inr rfl) (by decide) rfl ?_; clear HF; intro _ HF
      refine sl_nil (wp_seq (wp_seq (wp_region_lit ?_)))
      refine sl_move HF rfl rfl (.inl rfl) (by decide) rfl ?_; clear HF; intro _ HF
      refine sl_op HF rfl rfl (by decide) ?_; intro K hK; have e102 := HF.see 102 rfl; go_wp2_with fail; clear e102 HF; intro _ HF
      refine sl_nil (wp_cond_false (HF.at 103 rfl) (wp_skip (sl_then (wp_seq (wp_seq (wp_region_lit ?_))))))
      refine sl_op HF rfl rfl (by decide) ?_; intro K hK; have e9 := HF.see 9 rfl; go_wp2_with fail; clear e9 HF; intro _ HF
      refine sl_op HF rfl rfl (by decide) ?_; intro K hK; have e104 := HF.see 104 rfl; go_wp2_with fail; clear e104 HF; intro _ HF
      refine sl_op HF rfl rfl (by decide) ?_; intro K hK; have e105 := HF.see 105 rfl; go_wp2_with fail; clear e105 HF; intro _ HF
      refine sl_move HF rfl rfl (.inl rfl) (by decide) rfl ?_; clear HF; intro _ HF
      refine sl_skip HF rfl rfl rfl rfl (by decide) ?_; clear HF; intro _ HF
      refine sl_skip HF rfl rfl rfl rfl (by decide) ?_; clear HF; intro _ HF
      refine sl_skip HF rfl rfl rfl rfl (by decide) ?_; clear HF; intro _ HF
      refine sl_op HF rfl rfl (by decide) ?_; intro K hK; have e107 := HF.see 107 rfl; have e110 := HF.see 110 rfl; go_wp2_with fail; clear e107 e110 HF; intro _ HF
      refine sl_nil (wp_cond_true (HF.at 111 rfl) (wp_seq (wp_region_lit ?_)))
      refine sl_const HF rfl rfl (.inr rfl) (by decide) ?_; clear HF; intro _ HF
      refine sl_nil (wp_ret ?_)
      dsimp only [Exit.then, Exit.inBlock]
      have HF2 := HF.keep [4]
      simp only [pick, look] at HF2
      exact HRET.out _ HF2
    · have HT := Lib.hid ht
      have HF3 := Lib.hid (And.intro hf2 hf3)
      clear ht hf2 hf3
      refine sl_op HF rfl rfl (by decide) ?_; intro K hK; have e67 := HF.see 67 rfl; go_wp2_with fail; clear e67 HF; intro _ HF
      refine sl_move HF rfl rfl (.inr rfl) (by decide) rfl ?_; clear HF; intro _ HF
      refine sl_nil (wp_cond_false (HF.at 70 rfl) (wp_region_lit ?_))
      refine sl_op HF rfl rfl (by decide) ?_; intro K hK; have e67 := HF.see 67 rfl; go_wp2_with fail; clear e67 HF; intro _ HF
      refine sl_move HF rfl rfl (.inr rfl) (by decide) rfl ?_; clear HF; intro _ HF
      refine sl_nil (wp_cond_false (HF.at 70 rfl) (wp_seq (wp_seq (wp_region_lit ?_))))
      refine sl_op HF rfl rfl (by decide) ?_; intro K hK; have e67 := HF.see 67 rfl; go_wp2_with fail; clear e67 HF; intro _ HF
      refine sl_move HF rfl rfl (.inr rfl) (by decide) rfl ?_; clear HF; intro _ HF
      refine sl_nil (wp_cond_false (HF.at 75 rfl) (wp_region_lit ?_))
      refine sl_op HF rfl rfl (by decide) ?_; intro K hK; have e67 := HF.see 67 rfl; go_wp2_with fail; clear e67 HF; intro _ HF
      refine sl_move HF rfl rfl (.inr rfl) (by decide) rfl ?_; clear HF; intro _ HF
      refine sl_nil (wp_cond_false (HF.at 75 rfl) (wp_seq (wp_region_lit ?_)))
      refine sl_op HF rfl rfl (by decide) ?_; intro K hK; have e67 := HF.see 67 rfl; go_wp2_with fail; clear e67 HF; intro _ HF
      refine sl_move HF rfl rfl (.inr rfl) (by decide) rfl ?_; clear HF; intro _ HF
      refine sl_nil (wp_cond_false (HF.at 84 rfl) (wp_seq (wp_seq (wp_region_lit ?_))))
      refine sl_op HF rfl rfl (by decide) ?_; intro K hK; have e67 := HF.see 67 rfl; go_wp2_with fail; clear e67 HF; intro _ HF
      refine sl_move HF rfl rfl (.inr rfl) (by decide) rfl ?_; clear HF; intro _ HF
      refine sl_nil (wp_cond_false (HF.at 94 rfl) (wp_seq (wp_region_lit ?_)))
      refine sl_op HF rfl rfl (by decide) ?_; intro K hK; have e67 := HF.see 67 rfl; go_wp2_with fail; clear e67 HF; intro _ HF
      refine sl_move HF rfl rfl (.inr rfl) (by decide) rfl ?_; clear HF; intro _ HF
      refine sl_nil (wp_cond_false (HF.at 94 rfl) (wp_seq (wp_region_lit ?_)))
      refine sl_op HF rfl rfl (by decide) ?_; intro K hK; have e67 := HF.see 67 rfl; go_wp2_with fail; clear e67 HF; intro _ HF
      refine sl_move HF rfl rfl (.inr rfl) (by decide) rfl ?_; clear HF; intro _ HF
      refine sl_nil (wp_cond_true (HF.at 94 rfl) (wp_skip (sl_then (wp_cond_true (HF.at 94 rfl) (wp_seq (wp_region_lit ?_))))))
      have HF2 := HF.keep [1, 2, 5, 6, 7, 8, 9]
      simp only [pick, look] at HF2
      clear HF
      have HF := HF2
      clear HF2
      have hxb : 1 ≤ hh := by have := HT.out; unfold insTakes at this; simpa using this
      have hq : decide (hh - 1 < 0) = false := by simp; omega
      refine sl_move HF rfl rfl (.inl rfl) (by decide) rfl ?_; clear HF; intro _ HF
      refine sl_op HF rfl rfl (by decide) ?_; intro K hK; have e100 := HF.see 100 rfl; go_wp2_with fail; clear e100 HF; intro _ HF
      refine sl_move HF rfl rfl (.inr rfl) (by decide) rfl ?_; clear HF; intro _ HF
      refine sl_nil (wp_seq (wp_seq (wp_region_lit ?_)))
      refine sl_move HF rfl rfl (.inl rfl) (by decide) rfl ?_; clear HF; intro _ HF
      refine sl_op HF rfl rfl (by decide) ?_; intro K hK; have e102 := HF.see 102 rfl; go_wp2_with fail; clear e102 HF; intro _ HF
      refine sl_nil (wp_cond_false (HF.at 103 rfl) (wp_skip (sl_then (wp_seq (wp_seq (wp_region_lit ?_))))))
      refine sl_op HF rfl rfl (by decide) ?_; intro K hK; have e9 := HF.see 9 rfl; go_wp2_with fail; clear e9 HF; intro _ HF
      refine sl_op HF rfl rfl (by decide) ?_; intro K hK; have e104 := HF.see 104 rfl; go_wp2_with fail; clear e104 HF; intro _ HF
      refine sl_op HF rfl rfl (by decide) ?_; intro K hK; have e105 := HF.see 105 rfl; go_wp2_with fail; clear e105 HF; intro _ HF
      refine sl_move HF rfl rfl (.inl rfl) (by decide) rfl ?_; clear HF; intro _ HF
      refine sl_want HF rfl rfl rfl rfl (by decide) ?_; intro K hK; have e9 := HF.see 9 rfl; go_wp2_with fail; clear e9 HF; intro _ HF
      refine sl_want HF rfl rfl rfl rfl (by decide) ?_; intro K hK; have e108 := HF.see 108 rfl; go_wp2_with fail; clear e108 HF; intro _ HF
      refine sl_want HF rfl rfl rfl rfl (by decide) ?_; intro K hK; have e109 := HF.see 109 rfl; go_wp2_with fail; clear e109 HF; intro _ HF
      refine sl_op HF rfl rfl (by decide) ?_; intro K hK; have e107 := HF.see 107 rfl; have e110 := HF.see 110 rfl; go_wp2_with fail; clear e107 e110 HF; intro _ HF
      refine sl_nil (wp_cond_true (HF.at 111 rfl) (wp_seq (wp_region_lit ?_)))
      refine sl_const HF rfl rfl (.inr rfl) (by decide) ?_; clear HF; intro _ HF
      refine sl_nil (wp_ret ?_)
      dsimp only [Exit.then, Exit.inBlock]
      have HF2 := HF.keep [4]
      simp only [pick, look] at HF2
      exact HRET.out _ HF2
    · have HT := Lib.hid ht
      have HF3 := Lib.hid (And.intro hf2 hf3)
      clear ht hf2 hf3
      refine sl_op HF rfl rfl (by decide) ?_; intro K hK; have e67 := HF.see 67 rfl; go_wp2_with fail; clear e67 HF; intro _ HF
      refine sl_move HF rfl rfl (.inr rfl) (by decide) rfl ?_; clear HF; intro _ HF
      refine sl_nil (wp_cond_false (HF.at 70 rfl) (wp_region_lit ?_))
      refine sl_op HF rfl rfl (by decide) ?_; intro K hK; have e67 := HF.see 67 rfl; go_wp2_with fail; clear e67 HF; intro _ HF
      refine sl_move HF rfl rfl (.inr rfl) (by decide) rfl ?_; clear HF; intro _ HF
      refine sl_nil (wp_cond_false (HF.at 70 rfl) (wp_seq (wp_seq (wp_region_lit ?_))))
      refine sl_op HF rfl rfl (by decide) ?_; intro K hK; have e67 := HF.see 67 rfl; go_wp2_with fail; clear e67 HF; intro _ HF
      refine sl_move HF rfl rfl (.inr rfl) (by decide) rfl ?_; clear HF; intro _ HF
      refine sl_nil (wp_cond_false (HF.at 75 rfl) (wp_region_lit ?_))
      refine sl_op HF rfl rfl (by decide) ?_; intro K hK; have e67 := HF.see 67 rfl; go_wp2_with fail; clear e67 HF; intro _ HF
      refine sl_move HF rfl rfl (.inr rfl) (by decide) rfl ?_; clear HF; intro _ HF
      refine sl_nil (wp_cond_false (HF.at 75 rfl) (wp_seq (wp_region_lit ?_)))
      refine sl_op HF rfl rfl (by decide) ?_; intro K hK; have e67 := HF.see 67 rfl; go_wp2_with fail; clear e67 HF; intro _ HF
      refine sl_move HF rfl rfl (.inr rfl) (by decide) rfl ?_; clear HF; intro _ HF
      refine sl_nil (wp_cond_false (HF.at 84 rfl) (wp_seq (wp_seq (wp_region_lit ?_))))
      refine sl_op HF rfl rfl (by decide) ?_; intro K hK; have e67 := HF.see 67 rfl; go_wp2_with fail; clear e67 HF; intro _ HF
      refine sl_move HF rfl rfl (.inr rfl) (by decide) rfl ?_; clear HF; intro _ HF
      refine sl_nil (wp_cond_false (HF.at 94 rfl) (wp_seq (wp_region_lit ?_)))
      refine sl_op HF rfl rfl (by decide) ?_; intro K hK; have e67 := HF.see 67 rfl; go_wp2_with fail; clear e67 HF; intro _ HF
      refine sl_move HF rfl rfl (.inr rfl) (by decide) rfl ?_; clear HF; intro _ HF
      refine sl_nil (wp_cond_false (HF.at 94 rfl) (wp_seq (wp_region_lit ?_)))
      refine sl_op HF rfl rfl (by decide) ?_; intro K hK; have e67 := HF.see 67 rfl; go_wp2_with fail; clear e67 HF; intro _ HF
      refine sl_move HF rfl rfl (.inr rfl) (by decide) rfl ?_; clear HF; intro _ HF
      refine sl_nil (wp_cond_false (HF.at 94 rfl) (wp_seq (wp_region_lit ?_)))
      refine sl_op HF rfl rfl (by decide) ?_; intro K hK; have e67 := HF.see 67 rfl; go_wp2_with fail; clear e67 HF; intro _ HF
      refine sl_move HF rfl rfl (.inr rfl) (by decide) rfl ?_; clear HF; intro _ HF
      refine sl_nil (wp_cond_false (HF.at 94 rfl) (wp_region_lit ?_))
      refine sl_op HF rfl rfl (by decide) ?_; intro K hK; have e67 := HF.see 67 rfl; go_wp2_with fail; clear e67 HF; intro _ HF
      refine sl_move HF rfl rfl (.inr rfl) (by decide) rfl ?_; clear HF; intro _ HF
      refine sl_nil (wp_cond_false (HF.at 94 rfl) (wp_seq (wp_region_lit ?_)))
      refine sl_op HF rfl rfl (by decide) ?_; intro K hK; have e67 := HF.see 67 rfl; go_wp2_with fail; clear e67 HF; intro _ HF
      refine sl_move HF rfl rfl (.inr rfl) (by decide) rfl ?_; clear HF; intro _ HF
      refine sl_nil (wp_cond_true (HF.at 123 rfl) (wp_region_lit ?_))
      have HF2 := HF.keep [1, 2, 5, 6, 7, 8, 9]
      simp only [pick, look] at HF2
      clear HF
      have HF := HF2
      clear HF2
      refine sl_op HF rfl rfl (by decide) ?_; intro K hK; have e9 := HF.see 9 rfl; go_wp2_with fail; clear e9 HF; intro _ HF
      refine sl_op HF rfl rfl (by decide) ?_; intro K hK; have e125 := HF.see 125 rfl; go_wp2_with fail; clear e125 HF; intro _ HF
      refine sl_move HF rfl rfl (.inr rfl) (by decide) rfl ?_; clear HF; intro _ HF
      refine wpList_nil ?_
      dsimp only [Exit.then, Exit.inBlock]
      have HF2 := HF.keep [1, 2, 5, 6, 7, 8]
      simp only [pick, look] at HF2
      have HNX := (show insNext ⟨17, xa, xb⟩ hh = hh by unfold insNext insTakes effPuts; simp)
      refine HOK.out _ _ (by rw [HNX]; exact HF2) (by unfold goesL; simp)
    · have HT := Lib.hid ht
      have HF3 := Lib.hid (And.intro hf2 hf3)
      clear ht hf2 hf3
      refine sl_op HF rfl rfl (by decide) ?_; intro K hK; have e67 := HF.see 67 rfl; go_wp2_with fail; clear e67 HF; intro _ HF
      refine sl_move HF rfl rfl (.inr rfl) (by decide) rfl ?_; clear HF; intro _ HF
      refine sl_nil (wp_cond_false (HF.at 70 rfl) (wp_region_lit ?_))
      refine sl_op HF rfl rfl (by decide) ?_; intro K hK; have e67 := HF.see 67 rfl; go_wp2_with fail; clear e67 HF; intro _ HF
      refine sl_move HF rfl rfl (.inr rfl) (by decide) rfl ?_; clear HF; intro _ HF
      refine sl_nil (wp_cond_false (HF.at 70 rfl) (wp_seq (wp_seq (wp_region_lit ?_))))
      refine sl_op HF rfl rfl (by decide) ?_; intro K hK; have e67 := HF.see 67 rfl; go_wp2_with fail; clear e67 HF; intro _ HF
      refine sl_move HF rfl rfl (.inr rfl) (by decide) rfl ?_; clear HF; intro _ HF
      refine sl_nil (wp_cond_false (HF.at 75 rfl) (wp_region_lit ?_))
      refine sl_op HF rfl rfl (by decide) ?_; intro K hK; have e67 := HF.see 67 rfl; go_wp2_with fail; clear e67 HF; intro _ HF
      refine sl_move HF rfl rfl (.inr rfl) (by decide) rfl ?_; clear HF; intro _ HF
      refine sl_nil (wp_cond_false (HF.at 75 rfl) (wp_seq (wp_region_lit ?_)))
      refine sl_op HF rfl rfl (by decide) ?_; intro K hK; have e67 := HF.see 67 rfl; go_wp2_with fail; clear e67 HF; intro _ HF
      refine sl_move HF rfl rfl (.inr rfl) (by decide) rfl ?_; clear HF; intro _ HF
      refine sl_nil (wp_cond_false (HF.at 84 rfl) (wp_seq (wp_seq (wp_region_lit ?_))))
      refine sl_op HF rfl rfl (by decide) ?_; intro K hK; have e67 := HF.see 67 rfl; go_wp2_with fail; clear e67 HF; intro _ HF
      refine sl_move HF rfl rfl (.inr rfl) (by decide) rfl ?_; clear HF; intro _ HF
      refine sl_nil (wp_cond_false (HF.at 94 rfl) (wp_seq (wp_region_lit ?_)))
      refine sl_op HF rfl rfl (by decide) ?_; intro K hK; have e67 := HF.see 67 rfl; go_wp2_with fail; clear e67 HF; intro _ HF
      refine sl_move HF rfl rfl (.inr rfl) (by decide) rfl ?_; clear HF; intro _ HF
      refine sl_nil (wp_cond_false (HF.at 94 rfl) (wp_seq (wp_region_lit ?_)))
      refine sl_op HF rfl rfl (by decide) ?_; intro K hK; have e67 := HF.see 67 rfl; go_wp2_with fail; clear e67 HF; intro _ HF
      refine sl_move HF rfl rfl (.inr rfl) (by decide) rfl ?_; clear HF; intro _ HF
      refine sl_nil (wp_cond_false (HF.at 94 rfl) (wp_seq (wp_region_lit ?_)))
      refine sl_op HF rfl rfl (by decide) ?_; intro K hK; have e67 := HF.see 67 rfl; go_wp2_with fail; clear e67 HF; intro _ HF
      refine sl_move HF rfl rfl (.inr rfl) (by decide) rfl ?_; clear HF; intro _ HF
      refine sl_nil (wp_cond_true (HF.at 94 rfl) (wp_skip (sl_then (wp_cond_true (HF.at 94 rfl) (wp_seq (wp_region_lit ?_))))))
      have HF2 := HF.keep [1, 2, 5, 6, 7, 8, 9]
      simp only [pick, look] at HF2
      clear HF
      have HF := HF2
      clear HF2
      have hxb : 1 ≤ hh := by have := HT.out; unfold insTakes at this; simpa using this
      have hq : decide (hh - 1 < 0) = false := by simp; omega
      refine sl_move HF rfl rfl (.inl rfl) (by decide) rfl ?_; clear HF; intro _ HF
      refine sl_op HF rfl rfl (by decide) ?_; intro K hK; have e100 := HF.see 100 rfl; go_wp2_with fail; clear e100 HF; intro _ HF
      refine sl_move HF rfl rfl (.inr rfl) (by decide) rfl ?_; clear HF; intro _ HF
      refine sl_nil (wp_seq (wp_seq (wp_region_lit ?_)))
      refine sl_move HF rfl rfl (.inl rfl) (by decide) rfl ?_; clear HF; intro _ HF
      refine sl_op HF rfl rfl (by decide) ?_; intro K hK; have e102 := HF.see 102 rfl; go_wp2_with fail; clear e102 HF; intro _ HF
      refine sl_nil (wp_cond_false (HF.at 103 rfl) (wp_skip (sl_then (wp_seq (wp_seq (wp_region_lit ?_))))))
      refine sl_op HF rfl rfl (by decide) ?_; intro K hK; have e9 := HF.see 9 rfl; go_wp2_with fail; clear e9 HF; intro _ HF
      refine sl_op HF rfl rfl (by decide) ?_; intro K hK; have e104 := HF.see 104 rfl; go_wp2_with fail; clear e104 HF; intro _ HF
      refine sl_op HF rfl rfl (by decide) ?_; intro K hK; have e105 := HF.see 105 rfl; go_wp2_with fail; clear e105 HF; intro _ HF
      refine sl_move HF rfl rfl (.inl rfl) (by decide) rfl ?_; clear HF; intro _ HF
      refine sl_want HF rfl rfl rfl rfl (by decide) ?_; intro K hK; have e9 := HF.see 9 rfl; go_wp2_with fail; clear e9 HF; intro _ HF
      refine sl_want HF rfl rfl rfl rfl (by decide) ?_; intro K hK; have e108 := HF.see 108 rfl; go_wp2_with fail; clear e108 HF; intro _ HF
      refine sl_want HF rfl rfl rfl rfl (by decide) ?_; intro K hK; have e109 := HF.see 109 rfl; go_wp2_with fail; clear e109 HF; intro _ HF
      refine sl_op HF rfl rfl (by decide) ?_; intro K hK; have e107 := HF.see 107 rfl; have e110 := HF.see 110 rfl; go_wp2_with fail; clear e107 e110 HF; intro _ HF
      refine sl_nil (wp_cond_false (HF.at 111 rfl) (wp_skip (sl_then (wp_seq (wp_region_lit ?_)))))
      have HF2 := HF.keep [1, 2, 5, 6, 7, 8, 9]
      simp only [pick, look] at HF2
      clear HF
      have HF := HF2
      clear HF2
      rcases b with _ | _
      · skip
        refine sl_op HF rfl rfl (by decide) ?_; intro K hK; have e9 := HF.see 9 rfl; go_wp2_with fail; clear e9 HF; intro _ HF
        refine sl_op HF rfl rfl (by decide) ?_; intro K hK; have e112 := HF.see 112 rfl; go_wp2_with fail; clear e112 HF; intro _ HF
        refine sl_op HF rfl rfl (by decide) ?_; intro K hK; have e113 := HF.see 113 rfl; go_wp2_with fail; clear e113 HF; intro _ HF
        refine sl_move HF rfl rfl (.inl rfl) (by decide) rfl ?_; clear HF; intro _ HF
        refine sl_want HF rfl rfl rfl rfl (by decide) ?_; intro K hK; have e1 := HF.see 1 rfl; go_wp2_with fail; clear e1 HF; intro _ HF
        refine sl_want HF rfl rfl rfl rfl (by decide) ?_; intro K hK; have e8 := HF.see 8 rfl; go_wp2_with fail; clear e8 HF; intro _ HF
        refine sl_want HF rfl rfl rfl rfl (by decide) ?_; intro K hK; have e116 := HF.see 116 rfl; have e117 := HF.see 117 rfl; go_wp2_with fail; clear e116 e117 HF; intro _ HF
        refine sl_want HF rfl rfl rfl rfl (by decide) ?_; intro K hK; have e118 := HF.see 118 rfl; go_wp2_with fail; clear e118 HF; intro _ HF
        refine sl_op HF rfl rfl (by decide) ?_; intro K hK; have e115 := HF.see 115 rfl; have e119 := HF.see 119 rfl; go_wp2_with fail; clear e115 e119 HF; intro _ HF
        refine sl_nil (wp_cond_false (HF.at 120 rfl) (wp_skip ?_))
        dsimp only [Exit.then, Exit.inBlock]
        have HF2 := HF.keep [1, 2, 5, 6, 7, 8]
        simp only [pick, look] at HF2
        have HNX := (show insNext ⟨18, xa, xb⟩ hh = hh - 1 by unfold insNext insTakes effPuts; simp)
        refine HOK.out _ _ (by rw [HNX]; exact HF2) (by unfold goesL; simp)
      · skip
        refine sl_op HF rfl rfl (by decide) ?_; intro K hK; have e9 := HF.see 9 rfl; go_wp2_with fail; clear e9 HF; intro _ HF
        refine sl_op HF rfl rfl (by decide) ?_; intro K hK; have e112 := HF.see 112 rfl; go_wp2_with fail; clear e112 HF; intro _ HF
        refine sl_op HF rfl rfl (by decide) ?_; intro K hK; have e113 := HF.see 113 rfl; go_wp2_with fail; clear e113 HF; intro _ HF
        refine sl_move HF rfl rfl (.inl rfl) (by decide) rfl ?_; clear HF; intro _ HF
        refine sl_want HF rfl rfl rfl rfl (by decide) ?_; intro K hK; have e1 := HF.see 1 rfl; go_wp2_with fail; clear e1 HF; intro _ HF
        refine sl_want HF rfl rfl rfl rfl (by decide) ?_; intro K hK; have e8 := HF.see 8 rfl; go_wp2_with fail; clear e8 HF; intro _ HF
        refine sl_want HF rfl rfl rfl rfl (by decide) ?_; intro K hK; have e116 := HF.see 116 rfl; have e117 := HF.see 117 rfl; go_wp2_with fail; clear e116 e117 HF; intro _ HF
        refine sl_want HF rfl rfl rfl rfl (by decide) ?_; intro K hK; have e118 := HF.see 118 rfl; go_wp2_with fail; clear e118 HF; intro _ HF
        refine sl_op HF rfl rfl (by decide) ?_; intro K hK; have e115 := HF.see 115 rfl; have e119 := HF.see 119 rfl; go_wp2_with fail; clear e115 e119 HF; intro _ HF
        refine sl_nil (wp_cond_true (HF.at 120 rfl) (wp_region_lit ?_))
        refine sl_op HF rfl rfl (by decide) ?_; intro K hK; have e9 := HF.see 9 rfl; go_wp2_with fail; clear e9 HF; intro _ HF
        refine sl_op HF rfl rfl (by decide) ?_; intro K hK; have e121 := HF.see 121 rfl; go_wp2_with fail; clear e121 HF; intro _ HF
        refine sl_move HF rfl rfl (.inr rfl) (by decide) rfl ?_; clear HF; intro _ HF
        refine wpList_nil ?_
        dsimp only [Exit.then, Exit.inBlock]
        have HF2 := HF.keep [1, 2, 5, 6, 7, 8]
        simp only [pick, look] at HF2
        have HNX := (show insNext ⟨18, xa, xb⟩ hh = hh - 1 by unfold insNext insTakes effPuts; simp)
        refine HOK.out _ _ (by rw [HNX]; exact HF2) (by unfold goesL; simp)
    · have HT := Lib.hid ht
      have HF3 := Lib.hid (And.intro hf2 hf3)
      clear ht hf2 hf3
      refine sl_op HF rfl rfl (by decide) ?_; intro K hK; have e67 := HF.see 67 rfl; go_wp2_with fail; clear e67 HF; intro _ HF
      refine sl_move HF rfl rfl (.inr rfl) (by decide) rfl ?_; clear HF; intro _ HF
      refine sl_nil (wp_cond_false (HF.at 70 rfl) (wp_region_lit ?_))
      refine sl_op HF rfl rfl (by decide) ?_; intro K hK; have e67 := HF.see 67 rfl; go_wp2_with fail; clear e67 HF; intro _ HF
      refine sl_move HF rfl rfl (.inr rfl) (by decide) rfl ?_; clear HF; intro _ HF
      refine sl_nil (wp_cond_false (HF.at 70 rfl) (wp_seq (wp_seq (wp_region_lit ?_))))
      refine sl_op HF rfl rfl (by decide) ?_; intro K hK; have e67 := HF.see 67 rfl; go_wp2_with fail; clear e67 HF; intro _ HF
      refine sl_move HF rfl rfl (.inr rfl) (by decide) rfl ?_; clear HF; intro _ HF
      refine sl_nil (wp_cond_false (HF.at 75 rfl) (wp_region_lit ?_))
      refine sl_op HF rfl rfl (by decide) ?_; intro K hK; have e67 := HF.see 67 rfl; go_wp2_with fail; clear e67 HF; intro _ HF
      refine sl_move HF rfl rfl (.inr rfl) (by decide) rfl ?_; clear HF; intro _ HF
      refine sl_nil (wp_cond_false (HF.at 75 rfl) (wp_seq (wp_region_lit ?_)))
      refine sl_op HF rfl rfl (by decide) ?_; intro K hK; have e67 := HF.see 67 rfl; go_wp2_with fail; clear e67 HF; intro _ HF
      refine sl_move HF rfl rfl (.inr rfl) (by decide) rfl ?_; clear HF; intro _ HF
      refine sl_nil (wp_cond_false (HF.at 84 rfl) (wp_seq (wp_seq (wp_region_lit ?_))))
      refine sl_op HF rfl rfl (by decide) ?_; intro K hK; have e67 := HF.see 67 rfl; go_wp2_with fail; clear e67 HF; intro _ HF
      refine sl_move HF rfl rfl (.inr rfl) (by decide) rfl ?_; clear HF; intro _ HF
      refine sl_nil (wp_cond_false (HF.at 94 rfl) (wp_seq (wp_region_lit ?_)))
      refine sl_op HF rfl rfl (by decide) ?_; intro K hK; have e67 := HF.see 67 rfl; go_wp2_with fail; clear e67 HF; intro _ HF
      refine sl_move HF rfl rfl (.inr rfl) (by decide) rfl ?_; clear HF; intro _ HF
      refine sl_nil (wp_cond_false (HF.at 94 rfl) (wp_seq (wp_region_lit ?_)))
      refine sl_op HF rfl rfl (by decide) ?_; intro K hK; have e67 := HF.see 67 rfl; go_wp2_with fail; clear e67 HF; intro _ HF
      refine sl_move HF rfl rfl (.inr rfl) (by decide) rfl ?_; clear HF; intro _ HF
      refine sl_nil (wp_cond_false (HF.at 94 rfl) (wp_seq (wp_region_lit ?_)))
      refine sl_op HF rfl rfl (by decide) ?_; intro K hK; have e67 := HF.see 67 rfl; go_wp2_with fail; clear e67 HF; intro _ HF
      refine sl_move HF rfl rfl (.inr rfl) (by decide) rfl ?_; clear HF; intro _ HF
      refine sl_nil (wp_cond_false (HF.at 94 rfl) (wp_region_lit ?_))
      refine sl_op HF rfl rfl (by decide) ?_; intro K hK; have e67 := HF.see 67 rfl; go_wp2_with fail; clear e67 HF; intro _ HF
      refine sl_move HF rfl rfl (.inr rfl) (by decide) rfl ?_; clear HF; intro _ HF
      refine sl_nil (wp_cond_true (HF.at 94 rfl) (wp_seq (wp_region_lit ?_)))
      have HF2 := HF.keep [1, 2, 5, 6, 7, 8, 9]
      simp only [pick, look] at HF2
      clear HF
      have HF := HF2
      clear HF2
      have hxb : 1 ≤ hh := by have := HT.out; unfold insTakes at this; simpa using this
      have hq : decide (hh - 1 < 0) = false := by simp; omega
      refine sl_move HF rfl rfl (.inl rfl) (by decide) rfl ?_; clear HF; intro _ HF
      refine sl_op HF rfl rfl (by decide) ?_; intro K hK; have e100 := HF.see 100 rfl; go_wp2_with fail; clear e100 HF; intro _ HF
      refine sl_move HF rfl rfl (.inr rfl) (by decide) rfl ?_; clear HF; intro _ HF
      refine sl_nil (wp_seq (wp_seq (wp_region_lit ?_)))
      refine sl_move HF rfl rfl (.inl rfl) (by decide) rfl ?_; clear HF; intro _ HF
      refine sl_op HF rfl rfl (by decide) ?_; intro K hK; have e102 := HF.see 102 rfl; go_wp2_with fail; clear e102 HF; intro _ HF
      refine sl_nil (wp_cond_false (HF.at 103 rfl) (wp_skip (sl_then (wp_seq (wp_seq (wp_region_lit ?_))))))
      refine sl_op HF rfl rfl (by decide) ?_; intro K hK; have e9 := HF.see 9 rfl; go_wp2_with fail; clear e9 HF; intro _ HF
      refine sl_op HF rfl rfl (by decide) ?_; intro K hK; have e104 := HF.see 104 rfl; go_wp2_with fail; clear e104 HF; intro _ HF
      refine sl_op HF rfl rfl (by decide) ?_; intro K hK; have e105 := HF.see 105 rfl; go_wp2_with fail; clear e105 HF; intro _ HF
      refine sl_move HF rfl rfl (.inl rfl) (by decide) rfl ?_; clear HF; intro _ HF
      refine sl_want HF rfl rfl rfl rfl (by decide) ?_; intro K hK; have e9 := HF.see 9 rfl; go_wp2_with fail; clear e9 HF; intro _ HF
      refine sl_want HF rfl rfl rfl rfl (by decide) ?_; intro K hK; have e108 := HF.see 108 rfl; go_wp2_with fail; clear e108 HF; intro _ HF
      refine sl_want HF rfl rfl rfl rfl (by decide) ?_; intro K hK; have e109 := HF.see 109 rfl; go_wp2_with fail; clear e109 HF; intro _ HF
      refine sl_op HF rfl rfl (by decide) ?_; intro K hK; have e107 := HF.see 107 rfl; have e110 := HF.see 110 rfl; go_wp2_with fail; clear e107 e110 HF; intro _ HF
      refine sl_nil (wp_cond_false (HF.at 111 rfl) (wp_skip (sl_then (wp_seq (wp_region_lit ?_)))))
      have HF2 := HF.keep [1, 2, 5, 6, 7, 8, 9]
      simp only [pick, look] at HF2
      clear HF
      have HF := HF2
      clear HF2
      rcases b with _ | _
      · skip
        refine sl_op HF rfl rfl (by decide) ?_; intro K hK; have e9 := HF.see 9 rfl; go_wp2_with fail; clear e9 HF; intro _ HF
        refine sl_op HF rfl rfl (by decide) ?_; intro K hK; have e112 := HF.see 112 rfl; go_wp2_with fail; clear e112 HF; intro _ HF
        refine sl_op HF rfl rfl (by decide) ?_; intro K hK; have e113 := HF.see 113 rfl; go_wp2_with fail; clear e113 HF; intro _ HF
        refine sl_move HF rfl rfl (.inl rfl) (by decide) rfl ?_; clear HF; intro _ HF
        refine sl_want HF rfl rfl rfl rfl (by decide) ?_; intro K hK; have e1 := HF.see 1 rfl; go_wp2_with fail; clear e1 HF; intro _ HF
        refine sl_want HF rfl rfl rfl rfl (by decide) ?_; intro K hK; have e8 := HF.see 8 rfl; go_wp2_with fail; clear e8 HF; intro _ HF
        refine sl_want HF rfl rfl rfl rfl (by decide) ?_; intro K hK; have e116 := HF.see 116 rfl; have e117 := HF.see 117 rfl; go_wp2_with fail; clear e116 e117 HF; intro _ HF
        refine sl_want HF rfl rfl rfl rfl (by decide) ?_; intro K hK; have e118 := HF.see 118 rfl; go_wp2_with fail; clear e118 HF; intro _ HF
        refine sl_op HF rfl rfl (by decide) ?_; intro K hK; have e115 := HF.see 115 rfl; have e119 := HF.see 119 rfl; go_wp2_with fail; clear e115 e119 HF; intro _ HF
        refine sl_nil (wp_cond_false (HF.at 120 rfl) (wp_skip ?_))
        dsimp only [Exit.then, Exit.inBlock]
        have HF2 := HF.keep [1, 2, 5, 6, 7, 8]
        simp only [pick, look] at HF2
        have HNX := (show insNext ⟨19, xa, xb⟩ hh = hh - 1 by unfold insNext insTakes effPuts; simp)
        refine HOK.out _ _ (by rw [HNX]; exact HF2) (by unfold goesL; simp)
      · skip
        refine sl_op HF rfl rfl (by decide) ?_; intro K hK; have e9 := HF.see 9 rfl; go_wp2_with fail; clear e9 HF; intro _ HF
        refine sl_op HF rfl rfl (by decide) ?_; intro K hK; have e112 := HF.see 112 rfl; go_wp2_with fail; clear e112 HF; intro _ HF
        refine sl_op HF rfl rfl (by decide) ?_; intro K hK; have e113 := HF.see 113 rfl; go_wp2_with fail; clear e113 HF; intro _ HF
        refine sl_move HF rfl rfl (.inl rfl) (by decide) rfl ?_; clear HF; intro _ HF
        refine sl_want HF rfl rfl rfl rfl (by decide) ?_; intro K hK; have e1 := HF.see 1 rfl; go_wp2_with fail; clear e1 HF; intro _ HF
        refine sl_want HF rfl rfl rfl rfl (by decide) ?_; intro K hK; have e8 := HF.see 8 rfl; go_wp2_with fail; clear e8 HF; intro _ HF
        refine sl_want HF rfl rfl rfl rfl (by decide) ?_; intro K hK; have e116 := HF.see 116 rfl; have e117 := HF.see 117 rfl; go_wp2_with fail; clear e116 e117 HF; intro _ HF
        refine sl_want HF rfl rfl rfl rfl (by decide) ?_; intro K hK; have e118 := HF.see 118 rfl; go_wp2_with fail; clear e118 HF; intro _ HF
        refine sl_op HF rfl rfl (by decide) ?_; intro K hK; have e115 := HF.see 115 rfl; have e119 := HF.see 119 rfl; go_wp2_with fail; clear e115 e119 HF; intro _ HF
        refine sl_nil (wp_cond_true (HF.at 120 rfl) (wp_region_lit ?_))
        refine sl_op HF rfl rfl (by decide) ?_; intro K hK; have e9 := HF.see 9 rfl; go_wp2_with fail; clear e9 HF; intro _ HF
        refine sl_op HF rfl rfl (by decide) ?_; intro K hK; have e121 := HF.see 121 rfl; go_wp2_with fail; clear e121 HF; intro _ HF
        refine sl_move HF rfl rfl (.inr rfl) (by decide) rfl ?_; clear HF; intro _ HF
        refine wpList_nil ?_
        dsimp only [Exit.then, Exit.inBlock]
        have HF2 := HF.keep [1, 2, 5, 6, 7, 8]
        simp only [pick, look] at HF2
        have HNX := (show insNext ⟨19, xa, xb⟩ hh = hh - 1 by unfold insNext insTakes effPuts; simp)
        refine HOK.out _ _ (by rw [HNX]; exact HF2) (by unfold goesL; simp)
end Go.Proofs.YtefloadjolpgbaaDoor
