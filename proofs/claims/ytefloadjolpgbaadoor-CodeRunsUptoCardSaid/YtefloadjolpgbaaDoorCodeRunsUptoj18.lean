/- Parts of the proof of CodeRunsUpto, joined: Rhg Rhi Rhw Rhx. -/
import Derived.Test.YtefloadjolpgbaaDoorCodeRunsUptoj17
import Derived.Deep.LoopGhost
namespace Go.Proofs.YtefloadjolpgbaaDoor
open Go.RowKit

theorem int_info : (Tryd.prog.info? 3).map (fun i => (i.zero, i.size, i.bytes)) = some (some (.int .i64 0), 1, 8) := by kernel_rfl

def rhT1 (x : InsT) : List Int := if x.op ≥ 17 then [x.a] else []
def rhT2 (i : Int) (x : InsT) : List Int := rhT1 x ++ (if x.op ≠ 15 ∧ x.op ≠ 16 ∧ x.op ≠ 17 then [i + 1] else [])
theorem rhT2_eq {i : Int} {x : InsT} (h : InsFit x) : rhT2 i x = goesL i x := by
  obtain ⟨h0, h1, _⟩ := h
  unfold rhT2 rhT1 goesL
  by_cases e15 : x.op = 15
  · simp [e15]
  by_cases e16 : x.op = 16
  · simp [e16]
  by_cases e17 : x.op = 17
  · simp [e17]
  by_cases e18 : x.op = 18
  · simp [e18]
  by_cases e19 : x.op = 19
  · simp [e19]
  rw [if_neg (by omega), if_pos ⟨e15, e16, e17⟩, if_neg (by omega), if_neg (by omega), if_neg (by omega)]
  rfl

set_option maxHeartbeats 1600000 in
set_option maxRecDepth 100000 in
theorem rh_go1 {Q : Exit → Act → World → Prop} {ac : Act} {w : World} {g1 g n cap i gx : Nat} {most nx : Int} {ag : Bool} {x : InsT}
    (HF : Sl 157 [(1, .pointer (some ⟨g1, 0, none⟩)), (5, .int .i64 n), (6, .slice (some ⟨g, 0, none⟩) n cap), (8, .int .i64 most), (9, .bool ag), (10, .int .i64 i), (11, .pointer (some ⟨gx, 0, none⟩)), (12, .int .i64 nx), (13, .slice none 0 0)] ac)
    (hx : Blk w gx 33 #[.int .i64 x.op, .int .i64 x.a, .int .i64 x.b])
    (hQ : ∀ a' w' v, Sl 157 [(1, .pointer (some ⟨g1, 0, none⟩)), (5, .int .i64 n), (6, .slice (some ⟨g, 0, none⟩) n cap), (8, .int .i64 most), (9, .bool ag), (10, .int .i64 i), (11, .pointer (some ⟨gx, 0, none⟩)), (12, .int .i64 nx), (13, v)] a' →
      w'.ownsRow w.heap.size 3 1 v (rhT1 x).length ((rhT1 x).map iv) → Mod Nil w w' → Q .normal a' w') :
    (part [1, 1, 1, 1, 1, 1, 1, 0, 1, 0, 0, 1, 0, 1, 1, 0, 0, 1, 0, 0, 1, 1, 1, 1, 1, 1, 1, 0] rhBody).wp Tryd.prog Q ac w := by
  have HQ := Lib.hid hQ
  have i0 := hx.cell 0
  have i1 := hx.cell 1
  simp only [List.getElem?_toArray, List.getElem?_cons_zero, List.getElem?_cons_succ] at i0 i1
  clear hQ hx
  obtain ⟨o, xa, xb⟩ := x
  simp only at i0 i1
  conv => arg 2; whnf
  refine wp_seq (wp_region_lit ?_)
  rcases h17 : decide (17 ≤ o) with _ | _
  · have HT := Lib.hid (show rhT1 ⟨o, xa, xb⟩ = [] by unfold rhT1; rw [if_neg]; simpa using h17)
    refine sl_op HF rfl rfl (by decide) ?_; intro K hK; have e11 := HF.see 11 rfl; go_wp2_with fail; clear e11 HF; intro _ HF
    refine sl_op HF rfl rfl (by decide) ?_; intro K hK; have e74 := HF.see 74 rfl; go_wp2_with fail; clear e74 HF; intro _ HF
    refine sl_op HF rfl rfl (by decide) ?_; intro K hK; have e75 := HF.see 75 rfl; go_wp2_with fail; clear e75 HF; intro _ HF
    refine sl_nil (wp_cond_false (HF.at 76 rfl) (wp_skip ?_))
    have HF2 := HF.keep [1, 5, 6, 8, 9, 10, 11, 12, 13]
    simp only [pick, look] at HF2
    refine HQ.out _ _ _ HF2 ?_ (Mod.refl _ _)
    rw [HT.out]
    exact World.ownsRow_nil _ _ _ _
  · have HT := Lib.hid (show rhT1 ⟨o, xa, xb⟩ = [xa] by unfold rhT1; rw [if_pos]; simpa using h17)
    refine sl_op HF rfl rfl (by decide) ?_; intro K hK; have e11 := HF.see 11 rfl; go_wp2_with fail; clear e11 HF; intro _ HF
    refine sl_op HF rfl rfl (by decide) ?_; intro K hK; have e74 := HF.see 74 rfl; go_wp2_with fail; clear e74 HF; intro _ HF
    refine sl_op HF rfl rfl (by decide) ?_; intro K hK; have e75 := HF.see 75 rfl; go_wp2_with fail; clear e75 HF; intro _ HF
    refine sl_nil (wp_cond_true (HF.at 76 rfl) (wp_region_lit ?_))
    have HF2 := HF.keep [1, 5, 6, 8, 9, 10, 11, 12, 13]
    simp only [pick, look] at HF2
    clear HF h17
    have HF := HF2
    clear HF2
    refine sl_move HF rfl rfl (.inl rfl) (by decide) rfl ?_; clear HF; intro _ HF
    refine sl_op HF rfl rfl (by decide) ?_; intro K hK; have e11 := HF.see 11 rfl; go_wp2_with fail; clear e11 HF; intro _ HF
    refine sl_op HF rfl rfl (by decide) ?_; intro K hK; have e78 := HF.see 78 rfl; go_wp2_with fail; clear e78 HF; intro _ HF
    refine sl_op HF rfl rfl (by decide) ?_; intro K hK; have e79 := HF.see 79 rfl; go_wp2_with fail; clear e79 HF; intro _ HF
    obtain ⟨i0', hi, hz0, hz1, hz2⟩ := info_parts int_info
    refine sl_append1 HF rfl rfl (by decide) rfl Tryd.underlying30 hi hz0 hz1 hz2 rfl rfl (World.ownsRow_nil _ w.heap.size _ _) rfl (news := [iv xa]) rfl (Rd.blk (Blk.new w _ _)) (by intro u hu; obtain rfl := List.mem_singleton.1 hu; rfl) (by omega) (by simp only [maxLen]; omega) (by simp) ?_
    intro A' c' w' a' HF hA
    have HA := Lib.hid hA
    clear hA
    refine sl_move HF rfl rfl (.inr rfl) (by decide) rfl ?_; clear HF; intro _ HF
    have HF2 := HF.keep [1, 5, 6, 8, 9, 10, 11, 12, 13]
    simp only [pick, look] at HF2
    refine wpList_nil (HQ.out _ _ _ HF2 ?_ ?_)
    · rw [HT.out]
      exact HA.out.own
    · exact ((Mod.refl Nil w).alloc _).trans' HA.out.mod (fun _ _ h => h) (fun k _ h => by cases h)

set_option maxHeartbeats 1600000 in
set_option maxRecDepth 100000 in
theorem rh_go2 {Q : Exit → Act → World → Prop} {ac : Act} {B : Nat} {w : World} {g1 g n cap i gx : Nat} {most nx : Int} {ag : Bool} {x : InsT} {v : Value} {ts : List Int}
    (HF : Sl 157 [(1, .pointer (some ⟨g1, 0, none⟩)), (5, .int .i64 n), (6, .slice (some ⟨g, 0, none⟩) n cap), (8, .int .i64 most), (9, .bool ag), (10, .int .i64 i), (11, .pointer (some ⟨gx, 0, none⟩)), (12, .int .i64 nx), (13, v)] ac) (hn : i < 20000) (hts : ts.length ≤ 1)
    (hx : Blk w gx 33 #[.int .i64 x.op, .int .i64 x.a, .int .i64 x.b]) (hown : w.ownsRow B 3 1 v ts.length (ts.map iv)) (hB : B ≤ w.heap.size)
    (hQ : ∀ a' w' v', Sl 157 [(1, .pointer (some ⟨g1, 0, none⟩)), (5, .int .i64 n), (6, .slice (some ⟨g, 0, none⟩) n cap), (8, .int .i64 most), (9, .bool ag), (10, .int .i64 i), (12, .int .i64 nx), (13, v')] a' →
      w'.ownsRow B 3 1 v' (ts ++ (if x.op ≠ 15 ∧ x.op ≠ 16 ∧ x.op ≠ 17 then [(i : Int) + 1] else [])).length ((ts ++ (if x.op ≠ 15 ∧ x.op ≠ 16 ∧ x.op ≠ 17 then [(i : Int) + 1] else [])).map iv) → Mod (fun k => B ≤ k) w w' → Q .normal a' w') :
    (part [1, 1, 1, 1, 1, 1, 1, 0, 1, 0, 0, 1, 0, 1, 1, 0, 0, 1, 0, 0, 1, 1, 1, 1, 1, 1, 1, 1, 0] rhBody).wp Tryd.prog Q ac w := by
  have HQ := Lib.hid hQ
  have HO := Lib.hid hown
  have i0 := hx.cell 0
  simp only [List.getElem?_toArray, List.getElem?_cons_zero] at i0
  clear hQ hx hown
  obtain ⟨o, xa, xb⟩ := x
  simp only at i0 HQ
  conv => arg 2; whnf
  refine wp_seq (wp_region_lit ?_)
  by_cases hop : o ≠ 15 ∧ o ≠ 16 ∧ o ≠ 17
  · rw [if_pos hop] at HQ
    have q15 : (o != 15) = true := by simp [hop.1]
    have q16 : (o != 16) = true := by simp [hop.2.1]
    have q17 : (o != 17) = true := by simp [hop.2.2]
    clear hop
    refine sl_op HF rfl rfl (by decide) ?_; intro K hK; have e11 := HF.see 11 rfl; go_wp2_with fail; clear e11 HF; intro _ HF
    refine sl_op HF rfl rfl (by decide) ?_; intro K hK; have e82 := HF.see 82 rfl; go_wp2_with fail; clear e82 HF; intro _ HF
    refine sl_op HF rfl rfl (by decide) ?_; intro K hK; have e83 := HF.see 83 rfl; go_wp2_with fail; clear e83 HF; intro _ HF
    refine sl_move HF rfl rfl (.inl rfl) (by decide) rfl ?_; clear HF; intro _ HF
    refine sl_want HF rfl rfl rfl rfl (by decide) ?_; intro K hK; have e11 := HF.see 11 rfl; go_wp2_with fail; clear e11 HF; intro _ HF
    refine sl_want HF rfl rfl rfl rfl (by decide) ?_; intro K hK; have e86 := HF.see 86 rfl; go_wp2_with fail; clear e86 HF; intro _ HF
    refine sl_want HF rfl rfl rfl rfl (by decide) ?_; intro K hK; have e87 := HF.see 87 rfl; go_wp2_with fail; clear e87 HF; intro _ HF
    refine sl_op HF rfl rfl (by decide) ?_; intro K hK; have e85 := HF.see 85 rfl; have e88 := HF.see 88 rfl; go_wp2_with fail; clear e85 e88 HF; intro _ HF
    refine sl_move HF rfl rfl (.inl rfl) (by decide) rfl ?_; clear HF; intro _ HF
    refine sl_want HF rfl rfl rfl rfl (by decide) ?_; intro K hK; have e11 := HF.see 11 rfl; go_wp2_with fail; clear e11 HF; intro _ HF
    refine sl_want HF rfl rfl rfl rfl (by decide) ?_; intro K hK; have e91 := HF.see 91 rfl; go_wp2_with fail; clear e91 HF; intro _ HF
    refine sl_want HF rfl rfl rfl rfl (by decide) ?_; intro K hK; have e92 := HF.see 92 rfl; go_wp2_with fail; clear e92 HF; intro _ HF
    refine sl_op HF rfl rfl (by decide) ?_; intro K hK; have e90 := HF.see 90 rfl; have e93 := HF.see 93 rfl; go_wp2_with fail; clear e90 e93 HF; intro _ HF
    refine sl_nil (wp_cond_true (HF.at 94 rfl) (wp_region_lit ?_))
    have HF2 := HF.keep [1, 5, 6, 8, 9, 10, 12, 13]
    simp only [pick, look] at HF2
    clear HF
    have HF := HF2
    clear HF2
    refine sl_move HF rfl rfl (.inl rfl) (by decide) rfl ?_; clear HF; intro _ HF
    refine sl_move HF rfl rfl (.inl rfl) (by decide) rfl ?_; clear HF; intro _ HF
    refine sl_op HF rfl rfl (by decide) ?_; intro K hK; have e96 := HF.see 96 rfl; go_wp2_with fail; clear e96 HF; intro _ HF
    refine sl_op HF rfl rfl (by decide) ?_; intro K hK; have e97 := HF.see 97 rfl; go_wp2_with fail; clear e97 HF; intro _ HF
    obtain ⟨i0', hi, hz0, hz1, hz2⟩ := info_parts int_info
    refine sl_append1 HF rfl rfl (by decide) rfl Tryd.underlying30 hi hz0 hz1 hz2 rfl rfl (HO.out.alloc _) rfl (news := [iv ((i : Int) + 1)]) rfl (Rd.blk (Blk.new w _ _)) (by intro u hu; obtain rfl := List.mem_singleton.1 hu; rfl) (by omega) (by simp only [maxLen]; omega) (by simp; omega) ?_
    intro A' c' w' a' HF hA
    have HA := Lib.hid hA
    clear hA
    refine sl_move HF rfl rfl (.inr rfl) (by decide) rfl ?_; clear HF; intro _ HF
    have HF2 := HF.keep [1, 5, 6, 8, 9, 10, 12, 13]
    simp only [pick, look] at HF2
    refine wpList_nil (HQ.out _ _ _ HF2 ?_ ?_)
    · have h := HA.out.own
      simpa using h
    · exact ((Mod.refl Nil w).alloc _).trans' HA.out.mod (fun _ _ h => h.elim) (fun k _ h => (HO.out.lt k h).1)
  · rw [if_neg hop, List.append_nil] at HQ
    have HEND := Lib.hid (show ∀ a', Sl 157 [(1, .pointer (some ⟨g1, 0, none⟩)), (5, .int .i64 n), (6, .slice (some ⟨g, 0, none⟩) n cap), (8, .int .i64 most), (9, .bool ag), (10, .int .i64 i), (12, .int .i64 nx), (13, v)] a' → Q .normal a' w from fun a' h => HQ.out _ _ _ h HO.out (Mod.refl _ _))
    by_cases h15 : o = 15
    · have q15 : (o != 15) = false := by simp [h15]
      clear hop h15
      refine sl_op HF rfl rfl (by decide) ?_; intro K hK; have e11 := HF.see 11 rfl; go_wp2_with fail; clear e11 HF; intro _ HF
      refine sl_op HF rfl rfl (by decide) ?_; intro K hK; have e82 := HF.see 82 rfl; go_wp2_with fail; clear e82 HF; intro _ HF
      refine sl_op HF rfl rfl (by decide) ?_; intro K hK; have e83 := HF.see 83 rfl; go_wp2_with fail; clear e83 HF; intro _ HF
      refine sl_move HF rfl rfl (.inl rfl) (by decide) rfl ?_; clear HF; intro _ HF
      refine sl_skip HF rfl rfl rfl rfl (by decide) ?_; clear HF; intro _ HF
      refine sl_skip HF rfl rfl rfl rfl (by decide) ?_; clear HF; intro _ HF
      refine sl_skip HF rfl rfl rfl rfl (by decide) ?_; clear HF; intro _ HF
      refine sl_op HF rfl rfl (by decide) ?_; intro K hK; have e85 := HF.see 85 rfl; have e88 := HF.see 88 rfl; go_wp2_with fail; clear e85 e88 HF; intro _ HF
      refine sl_move HF rfl rfl (.inl rfl) (by decide) rfl ?_; clear HF; intro _ HF
      refine sl_skip HF rfl rfl rfl rfl (by decide) ?_; clear HF; intro _ HF
      refine sl_skip HF rfl rfl rfl rfl (by decide) ?_; clear HF; intro _ HF
      refine sl_skip HF rfl rfl rfl rfl (by decide) ?_; clear HF; intro _ HF
      refine sl_op HF rfl rfl (by decide) ?_; intro K hK; have e90 := HF.see 90 rfl; have e93 := HF.see 93 rfl; go_wp2_with fail; clear e90 e93 HF; intro _ HF
      refine sl_nil (wp_cond_false (HF.at 94 rfl) (wp_skip ?_))
      have HF2 := HF.keep [1, 5, 6, 8, 9, 10, 12, 13]
      simp only [pick, look] at HF2
      exact HEND.out _ HF2
    have q15 : (o != 15) = true := by simp [h15]
    by_cases h16 : o = 16
    · have q16 : (o != 16) = false := by simp [h16]
      clear hop h15 h16
      refine sl_op HF rfl rfl (by decide) ?_; intro K hK; have e11 := HF.see 11 rfl; go_wp2_with fail; clear e11 HF; intro _ HF
      refine sl_op HF rfl rfl (by decide) ?_; intro K hK; have e82 := HF.see 82 rfl; go_wp2_with fail; clear e82 HF; intro _ HF
      refine sl_op HF rfl rfl (by decide) ?_; intro K hK; have e83 := HF.see 83 rfl; go_wp2_with fail; clear e83 HF; intro _ HF
      refine sl_move HF rfl rfl (.inl rfl) (by decide) rfl ?_; clear HF; intro _ HF
      refine sl_want HF rfl rfl rfl rfl (by decide) ?_; intro K hK; have e11 := HF.see 11 rfl; go_wp2_with fail; clear e11 HF; intro _ HF
      refine sl_want HF rfl rfl rfl rfl (by decide) ?_; intro K hK; have e86 := HF.see 86 rfl; go_wp2_with fail; clear e86 HF; intro _ HF
      refine sl_want HF rfl rfl rfl rfl (by decide) ?_; intro K hK; have e87 := HF.see 87 rfl; go_wp2_with fail; clear e87 HF; intro _ HF
      refine sl_op HF rfl rfl (by decide) ?_; intro K hK; have e85 := HF.see 85 rfl; have e88 := HF.see 88 rfl; go_wp2_with fail; clear e85 e88 HF; intro _ HF
      refine sl_move HF rfl rfl (.inl rfl) (by decide) rfl ?_; clear HF; intro _ HF
      refine sl_skip HF rfl rfl rfl rfl (by decide) ?_; clear HF; intro _ HF
      refine sl_skip HF rfl rfl rfl rfl (by decide) ?_; clear HF; intro _ HF
      refine sl_skip HF rfl rfl rfl rfl (by decide) ?_; clear HF; intro _ HF
      refine sl_op HF rfl rfl (by decide) ?_; intro K hK; have e90 := HF.see 90 rfl; have e93 := HF.see 93 rfl; go_wp2_with fail; clear e90 e93 HF; intro _ HF
      refine sl_nil (wp_cond_false (HF.at 94 rfl) (wp_skip ?_))
      have HF2 := HF.keep [1, 5, 6, 8, 9, 10, 12, 13]
      simp only [pick, look] at HF2
      exact HEND.out _ HF2
    have q16 : (o != 16) = true := by simp [h16]
    have h17 : o = 17 := by omega
    have q17 : (o != 17) = false := by simp [h17]
    clear hop h15 h16 h17
    refine sl_op HF rfl rfl (by decide) ?_; intro K hK; have e11 := HF.see 11 rfl; go_wp2_with fail; clear e11 HF; intro _ HF
    refine sl_op HF rfl rfl (by decide) ?_; intro K hK; have e82 := HF.see 82 rfl; go_wp2_with fail; clear e82 HF; intro _ HF
    refine sl_op HF rfl rfl (by decide) ?_; intro K hK; have e83 := HF.see 83 rfl; go_wp2_with fail; clear e83 HF; intro _ HF
    refine sl_move HF rfl rfl (.inl rfl) (by decide) rfl ?_; clear HF; intro _ HF
    refine sl_want HF rfl rfl rfl rfl (by decide) ?_; intro K hK; have e11 := HF.see 11 rfl; go_wp2_with fail; clear e11 HF; intro _ HF
    refine sl_want HF rfl rfl rfl rfl (by decide) ?_; intro K hK; have e86 := HF.see 86 rfl; go_wp2_with fail; clear e86 HF; intro _ HF
    refine sl_want HF rfl rfl rfl rfl (by decide) ?_; intro K hK; have e87 := HF.see 87 rfl; go_wp2_with fail; clear e87 HF; intro _ HF
    refine sl_op HF rfl rfl (by decide) ?_; intro K hK; have e85 := HF.see 85 rfl; have e88 := HF.see 88 rfl; go_wp2_with fail; clear e85 e88 HF; intro _ HF
    refine sl_move HF rfl rfl (.inl rfl) (by decide) rfl ?_; clear HF; intro _ HF
    refine sl_want HF rfl rfl rfl rfl (by decide) ?_; intro K hK; have e11 := HF.see 11 rfl; go_wp2_with fail; clear e11 HF; intro _ HF
    refine sl_want HF rfl rfl rfl rfl (by decide) ?_; intro K hK; have e91 := HF.see 91 rfl; go_wp2_with fail; clear e91 HF; intro _ HF
    refine sl_want HF rfl rfl rfl rfl (by decide) ?_; intro K hK; have e92 := HF.see 92 rfl; go_wp2_with fail; clear e92 HF; intro _ HF
    refine sl_op HF rfl rfl (by decide) ?_; intro K hK; have e90 := HF.see 90 rfl; have e93 := HF.see 93 rfl; go_wp2_with fail; clear e90 e93 HF; intro _ HF
    refine sl_nil (wp_cond_false (HF.at 94 rfl) (wp_skip ?_))
    have HF2 := HF.keep [1, 5, 6, 8, 9, 10, 12, 13]
    simp only [pick, look] at HF2
    exact HEND.out _ HF2

set_option maxHeartbeats 1600000 in
set_option maxRecDepth 100000 in
theorem rh_goes {Q : Exit → Act → World → Prop} {ac : Act} {w0 w : World} {ins : List InsT} {g1 g n cap i gx : Nat} {r : List Value} {most nx : Int} {o0 : List Int} {ag0 : Bool} {x : InsT}
    (HF : Sl 157 [(1, .pointer (some ⟨g1, 0, none⟩)), (5, .int .i64 n), (6, .slice (some ⟨g, 0, none⟩) n cap), (8, .int .i64 most), (9, .bool ag0), (10, .int .i64 i), (11, .pointer (some ⟨gx, 0, none⟩)), (12, .int .i64 nx)] ac)
    (hi : RhI ins o0) (hn : ins.length = n) (hn2 : n ≤ 20000) (hin : i < n) (hfit : InsFit x) (hxo : x.ok) (hx : Blk w gx 33 #[.int .i64 x.op, .int .i64 x.a, .int .i64 x.b]) (hnc : n ≤ cap) (hcap : cap ≤ maxLen) (h0 : 0 ≤ nx) (h4 : nx ≤ 4000) (hg : w0.heap.size ≤ g) (hb : OutB w g o0 r) (hm : Mod Nil w0 w)
    (hBad : ∀ a' w', Sl 157 [(2, .slice none 0 0), (3, .int .i64 0), (4, .bool false)] a' → Mod Nil w0 w' → Q .ret a' w')
    (hOk : ∀ a' w' o ag, Sl 157 [(1, .pointer (some ⟨g1, 0, none⟩)), (5, .int .i64 n), (6, .slice (some ⟨g, 0, none⟩) n cap), (8, .int .i64 most), (9, .bool ag), (10, .int .i64 i)] a' → RhI ins o →
      (ag = false → o = o0 ∧ ag0 = false ∧ ∀ t ∈ goesL i x, 0 ≤ t ∧ seen o t.toNat = some nx) → unk o ≤ unk o0 → (ag = true → ag0 = true ∨ unk o < unk o0) → OutB w' g o r → Mod Nil w0 w' → Q .normal a' w') :
    (part [1, 1, 1, 1, 1, 1, 1, 0, 1, 0, 0, 1, 0, 1, 1, 0, 0, 1, 0, 0, 1, 1, 1, 1, 1, 1] rhBody).wp Tryd.prog Q ac w := by
  have HBAD := Lib.hid hBad
  have HOK := Lib.hid hOk
  have HX := Lib.hid hx
  have HB := Lib.hid hb
  have HM := Lib.hid hm
  have HI := Lib.hid hi
  have HNN := Lib.hid hn
  clear hBad hOk hx hb hm hi hn
  conv => arg 2; whnf
  refine wp_seq (wp_region_lit ?_)
  refine sl_const HF rfl rfl (.inr rfl) (by decide) ?_; clear HF; intro _ HF
  have HF2 := HF.keep [1, 5, 6, 8, 9, 10, 11, 12, 13]
  simp only [pick, look] at HF2
  refine sl_nil (wp_seq (rh_go1 (x := x) HF2 HX.out fun a2 w2 v HF hown hm2 => ?_))
  have hgw := HB.out.lt
  have HB2 := Lib.hid (HB.out.keep hm2)
  have HM2 := Lib.hid (HM.out.trans hm2)
  refine sl_then (wp_seq (rh_go2 (B := w.heap.size) (x := x) (ts := rhT1 x) HF (by omega) (by unfold rhT1; split <;> simp) (HX.out.keep hm2 id) hown hm2.size fun a3 w3 v' HF hown3 hm3 => ?_))
  have hown3' : w3.ownsRow w.heap.size 3 1 v' (goesL i x).length ((goesL i x).map iv) := by
    rw [← rhT2_eq hfit]
    exact hown3
  obtain ⟨A, cg, rfl, hcg1, hcg2⟩ := own_slice hown3'
  have hrd := Rd.of_own hown3'
  have hB3 : OutB w3 g o0 r := Blk.keep HB2.out hm3 (fun h => by omega)
  have hM3 : Mod Nil w0 w3 := HM2.out.trans' hm3 (fun _ _ h => h) (fun k hk h => by have := HM.out.size; omega)
  refine sl_then (wp_seq (wp_region_lit ?_))
  refine sl_const HF rfl rfl (.inr rfl) (by decide) ?_; clear HF; intro _ HF
  have HF2 := HF.keep [1, 5, 6, 8, 9, 10, 12, 13, 14]
  simp only [pick, look] at HF2
  refine sl_nil (rh_next HF2 HI.out HNN.out hn2 (goesL_len _ _) hcg1 hnc hcap hcg2 h0 h4 hg hB3 hM3 (hrd.mono fun b _ hb => by omega) (fun t ht => ?_) HBAD.out HOK.out)
  unfold goesL at ht
  unfold i64
  have hxa := hxo.2.1
  unfold i64 at hxa
  split at ht
  · cases ht
  split at ht
  · simp at ht; omega
  split at ht
  · simp at ht; omega
  · simp at ht; omega
end Go.Proofs.YtefloadjolpgbaaDoor

namespace Go.Proofs.YtefloadjolpgbaaDoor
open Go.RowKit

set_option maxHeartbeats 3200000 in
set_option maxRecDepth 100000 in
theorem rh_round {Q : Exit → Act → World → Prop} {ac : Act} {w0 w : World} {c : CodeT} {v : CodeV} {g1 g n cap i : Nat} {r : List Value} {most : Int} {o0 : List Int} {ag0 : Bool}
    (HF : Sl 157 [(1, .pointer (some ⟨g1, 0, none⟩)), (5, .int .i64 n), (6, .slice (some ⟨g, 0, none⟩) n cap), (8, .int .i64 most), (9, .bool ag0), (10, .int .i64 i)] ac)
    (hf : ∀ w', Mod Nil w0 w' → CodeF w' c v) (hk : Blk w g1 26 (codeArr c v)) (hi : RhI c.ins o0) (hn : c.ins.length = n) (hn2 : n ≤ 20000) (hin : i < n) (hfit : ∀ x ∈ c.ins, InsFit x) (hnc : n ≤ cap) (hcap : cap ≤ maxLen) (hg : w0.heap.size ≤ g) (hb : OutB w g o0 r) (hm : Mod Nil w0 w)
    (hBad : ∀ a' w', Sl 157 [(2, .slice none 0 0), (3, .int .i64 0), (4, .bool false)] a' → Mod Nil w0 w' → Q .ret a' w')
    (hOk : ∀ a' w' o ag most', Sl 157 [(1, .pointer (some ⟨g1, 0, none⟩)), (5, .int .i64 n), (6, .slice (some ⟨g, 0, none⟩) n cap), (8, .int .i64 most'), (9, .bool ag), (10, .int .i64 i)] a' → RhI c.ins o →
      (ag = false → o = o0 ∧ ag0 = false ∧ Done c.ins o i) → unk o ≤ unk o0 → (ag = true → ag0 = true ∨ unk o < unk o0) → OutB w' g o r → Mod Nil w0 w' → Q .normal a' w') :
    (part [1, 1, 1, 1, 1, 1, 1, 0, 1, 0, 0, 1, 0, 1, 1, 0, 0, 1, 0] rhBody).wp Tryd.prog Q ac w := by
  have HBAD := Lib.hid hBad
  have HOK := Lib.hid hOk
  have HC := Lib.hid hf
  have HKB := Lib.hid hk
  have HB := Lib.hid hb
  have HM := Lib.hid hm
  have HI := Lib.hid hi
  have HNN := Lib.hid hn
  have HFIT := Lib.hid hfit
  have hcap' := hcap
  unfold maxLen at hcap'
  obtain ⟨hat, ho⟩ : ∃ h, o0[i]? = some h := ⟨_, List.getElem?_eq_getElem (by rw [hi.len, hn]; exact hin)⟩
  have hci : w.cell? ⟨g, i, none⟩ = some (.int .i64 hat) := hb.cell ho
  have hrng := hi.rng i hat ho
  have HO := Lib.hid ho
  clear hBad hOk hf hk hb hm hi hn hfit ho
  conv => arg 2; whnf
  refine wp_block (wp_seq (wp_seq (wp_region_lit ?_)))
  by_cases hneg : hat < 0
  · have hd : decide (hat < 0) = true := by simpa using hneg
    refine sl_move HF rfl rfl (.inl rfl) (by decide) rfl ?_; clear HF; intro _ HF
    refine sl_move HF rfl rfl (.inl rfl) (by decide) rfl ?_; clear HF; intro _ HF
    refine sl_op HF rfl rfl (by decide) ?_; intro K hK; have e36 := HF.see 36 rfl; have e37 := HF.see 37 rfl; go_wp2_with fail; clear e36 e37 HF; intro _ HF
    refine sl_op HF rfl rfl (by decide) ?_; intro K hK; have e38 := HF.see 38 rfl; go_wp2_with fail; clear e38 HF; intro _ HF
    refine sl_op HF rfl rfl (by decide) ?_; intro K hK; have e39 := HF.see 39 rfl; go_wp2_with fail; clear e39 HF; intro _ HF
    refine sl_nil (wp_cond_true (HF.at 40 rfl) (wp_exit ?_))
    dsimp only [Exit.then]
    refine sl_exit ?_
    have HF2 := HF.keep [1, 5, 6, 8, 9, 10]
    simp only [pick, look] at HF2
    refine HOK.out _ _ o0 ag0 most HF2 HI.out (fun h => ⟨rfl, h, fun k hk => ?_⟩) (Nat.le_refl _) (fun h => .inl h) HB.out HM.out
    obtain ⟨h1, h2⟩ := seen_some.1 hk
    rw [HO.out] at h1
    cases h1
    omega
  have hd : decide (hat < 0) = false := by simpa using hneg
  refine sl_move HF rfl rfl (.inl rfl) (by decide) rfl ?_; clear HF; intro _ HF
  refine sl_move HF rfl rfl (.inl rfl) (by decide) rfl ?_; clear HF; intro _ HF
  refine sl_op HF rfl rfl (by decide) ?_; intro K hK; have e36 := HF.see 36 rfl; have e37 := HF.see 37 rfl; go_wp2_with fail; clear e36 e37 HF; intro _ HF
  refine sl_op HF rfl rfl (by decide) ?_; intro K hK; have e38 := HF.see 38 rfl; go_wp2_with fail; clear e38 HF; intro _ HF
  refine sl_op HF rfl rfl (by decide) ?_; intro K hK; have e39 := HF.see 39 rfl; go_wp2_with fail; clear e39 HF; intro _ HF
  refine sl_nil (wp_cond_false (HF.at 40 rfl) (wp_skip (sl_then (wp_seq (wp_region_lit ?_)))))
  obtain ⟨k0, k1, k2, k3, k4, k5⟩ := code_boxed HKB.out
  rw [HNN.out] at k3
  obtain ⟨x, hxi⟩ : ∃ x, c.ins[i]? = some x := ⟨_, List.getElem?_eq_getElem (by rw [HNN.out]; exact hin)⟩
  have hrow := HC.out w HM.out
  obtain ⟨ad, had, hadl, a0, a1, a2⟩ := eqIns_at hrow.r3 hxi
  have hok := hrow.oki x (List.mem_of_getElem? hxi)
  have hft := HFIT.out x (List.mem_of_getElem? hxi)
  rw [had] at k3
  have HXI := Lib.hid hxi
  have HOKX := Lib.hid hok
  have HFX := Lib.hid hft
  have hc3 := hrow.n3
  rw [HNN.out] at hc3
  have hc3m := hrow.m3
  obtain ⟨tk, htk⟩ : ∃ tk, insTakes x = tk := ⟨_, rfl⟩
  have htk0 : 0 ≤ tk := by rw [← htk]; exact hft.2.2.1
  have htk1 : tk ≤ 3000000 := by rw [← htk]; exact hft.2.2.2
  obtain ⟨pu, hpu⟩ : ∃ pu, insPuts x = pu := ⟨_, rfl⟩
  have hpu01 : 0 ≤ pu ∧ pu ≤ 1 := by rw [← hpu]; unfold insPuts; split <;> omega
  obtain ⟨hpu0, hpu1⟩ := hpu01
  have HNX := Lib.hid (show insNext x hat = hat - tk + pu by rw [← htk, ← hpu]; unfold insNext; rw [effPuts_eq hft.2.1])
  have hat4 : hat ≤ 4000 := by omega
  have HT := Lib.hid (fun w' => takes_any x w' hok (fun ho => by
      have h3 := hft.2.2.2
      unfold insTakes at h3
      rcases ho with ho | ho <;> rw [ho] at h3 <;> simp at h3 <;> omega))
  rw [htk] at HT
  have HP := Lib.hid (fun w' => puts_any x w')
  rw [hpu] at HP
  have HTK := Lib.hid htk
  clear hrow had hxi hok hft htk hpu hneg hd k0 k1 k2 k4 k5 hci
  have HF2 := HF.keep [1, 5, 6, 8, 9, 10]
  simp only [pick, look] at HF2
  clear HF
  have HF := HF2
  clear HF2
  obtain ⟨xo, xa, xb⟩ := x
  simp only at a0 a1 a2
  refine sl_op HF rfl rfl (by decide) ?_; intro K hK; have e1 := HF.see 1 rfl; go_wp2_with fail; clear e1 HF; intro _ HF
  refine sl_op HF rfl rfl (by decide) ?_; intro K hK; have e41 := HF.see 41 rfl; go_wp2_with fail; clear e41 HF; intro _ HF
  refine sl_move HF rfl rfl (.inl rfl) (by decide) rfl ?_; clear HF; intro _ HF
  refine sl_op HF rfl rfl (by decide) ?_; intro K hK; have e42 := HF.see 42 rfl; have e43 := HF.see 43 rfl; go_wp2_with fail; clear e42 e43 HF; intro _ HF
  refine sl_op HF rfl rfl (by decide) ?_; intro K hK; have e44 := HF.see 44 rfl; go_wp2_with fail; clear e44 HF; intro _ HF
  refine sl_op HF rfl rfl (by decide) ?_; intro K hK; go_wp2_with fail; clear HF; intro _ HF
  refine sl_op0 HF rfl rfl ?_; intro K hK; have e11 := HF.see 11 rfl; have e45 := HF.see 45 rfl; go_wp2_with fail; clear e11 e45 HF; intro _ HF
  have hbx := Blk.new w 33 #[.int .i64 xo, .int .i64 xa, .int .i64 xb]
  have hm1 := (Mod.refl Nil w).alloc (.cells #[.int .i64 xo, .int .i64 xa, .int .i64 xb] 33)
  have HB1 := Lib.hid (HB.out.keep hm1)
  have HM1 := Lib.hid (HM.out.trans hm1)
  refine sl_nil (wp_seq ?_)
  generalize w.alloc (.cells #[.int .i64 xo, .int .i64 xa, .int .i64 xb] 33) = w1 at hbx HB1 HM1 ⊢
  generalize w.heap.size = gx at hbx HF
  have HBX := Lib.hid hbx
  clear hbx hm1 k3 a0 a1 a2 HB HM HKB hadl
  obtain ⟨W, hW⟩ : ∃ W, W = w1.drew := ⟨_, rfl⟩
  have HW := Lib.hid hW
  have HM0 := Lib.hid ((Mod.refl Nil w1).drew)
  have HFS := Lib.hid (show ∀ wx, Mod Nil W wx → OutB wx g o0 r ∧ Blk wx gx 33 #[.int .i64 xo, .int .i64 xa, .int .i64 xb] from fun wx h => ⟨HB1.out.keep (HM0.out.trans (hW ▸ h)), HBX.out.keep (HM0.out.trans (hW ▸ h)) id⟩)
  have HMW := Lib.hid (show ∀ wx, Mod Nil W wx → Mod Nil w0 wx from fun wx h => HM1.out.trans (HM0.out.trans (hW ▸ h)))
  clear hW
  apply sl_flow6 (N := 1) [some 46, some 47, some 48, some 49, some 50, some 51, some 52, some 12] [.quiet [] [], .quiet [] [], .quiet [] [], .quiet [] [], .quiet [] [0], .writes 0 [] [], .quiet [0] [], .quiet [0] []] (PhK W (fun _ => .int .i64 tk)) [_, _, _, _, _, (fun h => h 0), _, _] HF
  case hm => kernel_rfl
  case hok => kernel_rfl
  case hfl => rfl
  case h0 => exact (fun h => HW.out ▸ PhK.init h)
  case hobs =>
    apply And.intro
    · apply obm_quiet
      case hg => rfl
      case hop =>
        intro ax wx h S hD hE hP hk K hK
        have e6 := hk.see 6 rfl rfl
        clear hk hD hE
        go_wp2_with fail
        all_goals first | exact hP | rfl
      case hst => exact fun h h' e => rfl
    apply And.intro
    · apply obm_quiet
      case hg => rfl
      case hop =>
        intro ax wx h S hD hE hP hk K hK
        have e10 := hk.see 10 rfl rfl
        clear hk hD hE
        go_wp2_with fail
        all_goals first | exact hP | rfl
      case hst => exact fun h h' e => rfl
    apply And.intro
    · apply obm_quiet
      case hg => rfl
      case hop =>
        intro ax wx h S hD hE hP hk K hK
        have e46 := hk.see 46 rfl rfl
        have e47 := hk.see 47 rfl rfl
        clear hk hD hE
        go_wp2_with fail
        all_goals first | exact hP | rfl
      case hst => exact fun h h' e => rfl
    apply And.intro
    · apply obm_quiet
      case hg => rfl
      case hop =>
        intro ax wx h S hD hE hP hk K hK
        have e48 := hk.see 48 rfl rfl
        clear hk hD hE
        obtain ⟨hb3, hb5⟩ := HFS.out _ hP.mod
        have hci := hb3.cell HO.out
        clear hb3 hb5
        go_wp2_with fail
        all_goals first | exact hP | rfl
      case hst => exact fun h h' e => rfl
    apply And.intro
    · apply obm_quiet
      case hg => rfl
      case hop =>
        intro ax wx h S hD hE hP hk K hK
        have e11 := hk.see 11 rfl rfl
        have n0 := hE 0 (by decide)
        clear hk hD hE
        obtain ⟨hb3, hb5⟩ := HFS.out _ hP.mod
        have i0 := hb5.cell 0
        have i1 := hb5.cell 1
        have i2 := hb5.cell 2
        simp only [List.getElem?_toArray, List.getElem?_cons_zero, List.getElem?_cons_succ] at i0 i1 i2
        clear hb3 hb5
        go_wp2_with fail
        all_goals first | exact hP | rfl
      case hst => exact fun h h' e => rfl
    refine And.intro (obm_writes rfl ?op) ?_
    case op =>
      intro ax wx h S hD hE hS hP hk K hK
      have e50 := hk.see 50 rfl rfl
      clear hk hD hE
      dsimp only at *
      have HP := Lib.hid hP
      clear hP
      go_wp2_with fail
      refine (HT.out _).mono ?_
      rintro e w' ⟨rfl, hm⟩
      exact hK _ _ (HP.out.step hm rfl)
    apply And.intro
    · apply obm_quiet
      case hg => rfl
      case hop =>
        intro ax wx h S hD hE hP hk K hK
        have e49 := hk.see 49 rfl rfl
        have e51 := hk.see 51 rfl rfl
        try dsimp only at e51
        have d0 := hD 0 (by decide)
        clear hk hD hE
        rw [hP.val 0 d0] at e51
        go_wp2_with fail
        all_goals first | exact hP | rfl
      case hst => exact fun h h' e => by first | rfl | simp only [e 0 (by decide)]
    apply And.intro
    · apply obm_quiet
      case hg => rfl
      case hop =>
        intro ax wx h S hD hE hP hk K hK
        have e52 := hk.see 52 rfl rfl
        try dsimp only at e52
        have d0 := hD 0 (by decide)
        clear hk hD hE
        go_wp2_with fail
        all_goals first | exact hP | rfl
      case hst => exact fun h h' e => by first | rfl | simp only [e 0 (by decide)]
    exact trivial
  intro w2 a2 h S hall hP HF
  obtain ⟨hb2, hbx2⟩ := HFS.out _ hP.mod
  have hM2 := HMW.out _ hP.mod
  have HB2 := Lib.hid hb2
  have HBX2 := Lib.hid hbx2
  have HM2 := Lib.hid hM2
  have HF2 := HF.keep [1, 5, 6, 8, 9, 10, 11, 12]
  simp only [pick, look, laid5] at HF2
  clear HF hP hall hb2 hM2
  have HF := HF2
  clear HF2 HFS HMW HW HM0 HB1 HM1
  have i0 := hbx2.cell 0
  have i1 := hbx2.cell 1
  have i2 := hbx2.cell 2
  simp only [List.getElem?_toArray, List.getElem?_cons_zero, List.getElem?_cons_succ] at i0 i1 i2
  clear hbx2
  refine sl_then (wp_seq (wp_seq (wp_region_lit ?_)))
  by_cases hb1 : hat - tk < 0
  · have hd1 : decide (hat - tk < 0) = true := by simpa using hb1
    refine sl_move HF rfl rfl (.inl rfl) (by decide) rfl ?_; clear HF; intro _ HF
    refine sl_op HF rfl rfl (by decide) ?_; intro K hK; have e53 := HF.see 53 rfl; go_wp2_with fail; clear e53 HF; intro _ HF
    refine sl_move HF rfl rfl (.inl rfl) (by decide) rfl ?_; clear HF; intro _ HF
    refine sl_skip HF rfl rfl rfl rfl (by decide) ?_; clear HF; intro _ HF
    refine sl_skip HF rfl rfl rfl rfl (by decide) ?_; clear HF; intro _ HF
    refine sl_skip HF rfl rfl rfl rfl (by decide) ?_; clear HF; intro _ HF
    refine sl_skip HF rfl rfl rfl rfl (by decide) ?_; clear HF; intro _ HF
    refine sl_skip HF rfl rfl rfl rfl (by decide) ?_; clear HF; intro _ HF
    refine sl_op HF rfl rfl (by decide) ?_; intro K hK; have e55 := HF.see 55 rfl; have e60 := HF.see 60 rfl; go_wp2_with fail; clear e55 e60 HF; intro _ HF
    refine sl_nil (wp_cond_true (HF.at 61 rfl) (wp_seq (wp_region_lit ?_)))
    refine sl_const HF rfl rfl (.inr rfl) (by decide) ?_; clear HF; intro _ HF
    refine sl_const HF rfl rfl (.inr rfl) (by decide) ?_; clear HF; intro _ HF
    refine sl_const HF rfl rfl (.inr rfl) (by decide) ?_; clear HF; intro _ HF
    refine sl_nil (wp_ret ?_)
    dsimp only [Exit.then, Exit.inBlock]
    have HF2 := HF.keep [2, 3, 4]
    simp only [pick, look] at HF2
    exact HBAD.out _ _ HF2 HM2.out
  have hd1 : decide (hat - tk < 0) = false := by simpa using hb1
  have HPL := Lib.hid (HP.out w2)
  refine sl_move HF rfl rfl (.inl rfl) (by decide) rfl ?_; clear HF; intro _ HF
  refine sl_op HF rfl rfl (by decide) ?_; intro K hK; have e53 := HF.see 53 rfl; go_wp2_with fail; clear e53 HF; intro _ HF
  refine sl_move HF rfl rfl (.inl rfl) (by decide) rfl ?_; clear HF; intro _ HF
  refine sl_want HF rfl rfl rfl rfl (by decide) ?_; intro K hK; have e12 := HF.see 12 rfl; go_wp2_with fail; clear e12 HF; intro _ HF
  refine sl_want HF rfl rfl rfl rfl (by decide) ?_; intro K hK; have e11 := HF.see 11 rfl; go_wp2_with fail; clear e11 HF; intro _ HF
  refine sl_want HF rfl rfl rfl rfl (by decide) ?_; intro K hK; have e57 := HF.see 57 rfl; go_wp2_with fail
  refine HPL.out.mono ?_
  rintro e w3 ⟨rfl, hm3⟩
  have HB3 := Lib.hid (HB2.out.keep hm3)
  have HBX3 := Lib.hid (HBX2.out.keep hm3 id)
  have HM3 := Lib.hid (HM2.out.trans hm3)
  clear hm3 HB2 HBX2 HM2 i0 i1 i2 HPL
  go_wp2_with fail; clear e57 HF; intro _ HF
  by_cases hb2 : 4000 < hat - tk + pu
  · have hd2 : decide (4000 < hat - tk + pu) = true := by simpa using hb2
    refine sl_want HF rfl rfl rfl rfl (by decide) ?_; intro K hK; have e56 := HF.see 56 rfl; have e58 := HF.see 58 rfl; go_wp2_with fail; clear e56 e58 HF; intro _ HF
    refine sl_want HF rfl rfl rfl rfl (by decide) ?_; intro K hK; have e59 := HF.see 59 rfl; go_wp2_with fail; clear e59 HF; intro _ HF
    refine sl_op HF rfl rfl (by decide) ?_; intro K hK; have e55 := HF.see 55 rfl; have e60 := HF.see 60 rfl; go_wp2_with fail; clear e55 e60 HF; intro _ HF
    refine sl_nil (wp_cond_true (HF.at 61 rfl) (wp_seq (wp_region_lit ?_)))
    refine sl_const HF rfl rfl (.inr rfl) (by decide) ?_; clear HF; intro _ HF
    refine sl_const HF rfl rfl (.inr rfl) (by decide) ?_; clear HF; intro _ HF
    refine sl_const HF rfl rfl (.inr rfl) (by decide) ?_; clear HF; intro _ HF
    refine sl_nil (wp_ret ?_)
    dsimp only [Exit.then, Exit.inBlock]
    have HF2 := HF.keep [2, 3, 4]
    simp only [pick, look] at HF2
    exact HBAD.out _ _ HF2 HM3.out
  have hd2 : decide (4000 < hat - tk + pu) = false := by simpa using hb2
  refine sl_want HF rfl rfl rfl rfl (by decide) ?_; intro K hK; have e56 := HF.see 56 rfl; have e58 := HF.see 58 rfl; go_wp2_with fail; clear e56 e58 HF; intro _ HF
  refine sl_want HF rfl rfl rfl rfl (by decide) ?_; intro K hK; have e59 := HF.see 59 rfl; go_wp2_with fail; clear e59 HF; intro _ HF
  refine sl_op HF rfl rfl (by decide) ?_; intro K hK; have e55 := HF.see 55 rfl; have e60 := HF.see 60 rfl; go_wp2_with fail; clear e55 e60 HF; intro _ HF
  refine sl_nil (wp_cond_false (HF.at 61 rfl) (wp_skip (sl_then (wp_seq (wp_region_lit ?_)))))
  have HF2 := HF.keep [1, 5, 6, 8, 9, 10, 11, 12]
  simp only [pick, look] at HF2
  clear HF hd1 hd2
  have HF := HF2
  clear HF2
  have i0 := HBX3.out.cell 0
  have i1 := HBX3.out.cell 1
  have i2 := HBX3.out.cell 2
  simp only [List.getElem?_toArray, List.getElem?_cons_zero, List.getElem?_cons_succ] at i0 i1 i2
  have HPL := Lib.hid (HP.out w3)
  refine sl_move HF rfl rfl (.inl rfl) (by decide) rfl ?_; clear HF; intro _ HF
  refine sl_op HF rfl rfl (by decide) ?_; intro K hK; have e11 := HF.see 11 rfl; go_wp2_with fail; clear e11 HF; intro _ HF
  refine sl_op HF rfl rfl (by decide) ?_; intro K hK; have e63 := HF.see 63 rfl; go_wp2_with fail
  refine HPL.out.mono ?_
  rintro e w4 ⟨rfl, hm4⟩
  have HB4 := Lib.hid (HB3.out.keep hm4)
  have HBX4 := Lib.hid (HBX3.out.keep hm4 id)
  have HM4 := Lib.hid (HM3.out.trans hm4)
  clear hm4 HB3 HBX3 HM3 i0 i1 i2 HPL
  go_wp2_with fail; clear e63 HF; intro _ HF
  refine sl_op HF rfl rfl (by decide) ?_; intro K hK; have e62 := HF.see 62 rfl; have e64 := HF.see 64 rfl; go_wp2_with fail; clear e62 e64 HF; intro _ HF
  refine sl_move HF rfl rfl (.inr rfl) (by decide) rfl ?_; clear HF; intro _ HF
  refine sl_nil (wp_seq (wp_region_lit ?_))
  have HF2 := HF.keep [1, 5, 6, 8, 9, 10, 11, 12]
  simp only [pick, look] at HF2
  clear HF
  have HF := HF2
  clear HF2
  have hci := HB4.out.cell HO.out
  refine sl_move HF rfl rfl (.inl rfl) (by decide) rfl ?_; clear HF; intro _ HF
  refine sl_move HF rfl rfl (.inl rfl) (by decide) rfl ?_; clear HF; intro _ HF
  refine sl_move HF rfl rfl (.inl rfl) (by decide) rfl ?_; clear HF; intro _ HF
  refine sl_op HF rfl rfl (by decide) ?_; intro K hK; have e67 := HF.see 67 rfl; have e68 := HF.see 68 rfl; go_wp2_with fail; clear e67 e68 HF; intro _ HF
  refine sl_op HF rfl rfl (by decide) ?_; intro K hK; have e69 := HF.see 69 rfl; go_wp2_with fail; clear e69 HF; intro _ HF
  refine sl_move HF rfl rfl (.inl rfl) (by decide) rfl ?_; clear HF; intro _ HF
  refine sl_op HF rfl rfl (by decide) ?_; intro K hK; have e70 := HF.see 70 rfl; have e71 := HF.see 71 rfl; go_wp2_with fail; clear e70 e71 HF; intro _ HF
  refine sl_op HF rfl rfl (by decide) ?_; intro K hK; have e66 := HF.see 66 rfl; have e72 := HF.see 72 rfl; go_wp2_with fail; clear e66 e72 HF; intro _ HF
  refine sl_move HF rfl rfl (.inr rfl) (by decide) rfl ?_; clear HF; intro _ HF
  have HF2 := HF.keep [1, 5, 6, 8, 9, 10, 11, 12]
  simp only [pick, look] at HF2
  refine sl_nil (rh_goes (x := ⟨xo, xa, xb⟩) (ins := c.ins) HF2 HI.out HNN.out hn2 hin HFX.out HOKX.out HBX4.out hnc hcap (by omega) (by omega) hg HB4.out HM4.out ?_ ?_)
  · exact fun a' w' h1 h2 => HBAD.out a' w' h1 h2
  · intro a' w' o ag HF' h1 h2 h3 h4 h5 h6
    refine HOK.out a' w' o ag _ HF' h1 (fun h => ?_) h3 h4 h5 h6
    obtain ⟨q1, q2, q3⟩ := h2 h
    refine ⟨q1, q2, fun k hk => ?_⟩
    obtain ⟨p1, p2⟩ := seen_some.1 hk
    rw [q1, HO.out] at p1
    cases p1
    refine ⟨_, HXI.out, by rw [HTK.out]; omega, by rw [HNX.out]; omega, fun t ht => ?_⟩
    rw [HNX.out]
    exact q3 t ht
end Go.Proofs.YtefloadjolpgbaaDoor

namespace Go.Proofs.YtefloadjolpgbaaDoor
open Go.RowKit

/-- One going through: so many places looked at. -/
def RhL (ins : List InsT) (w0 : World) (g1 g n cap : Nat) (r : List Value) (oS : List Int) (ac : Act) (w : World) : Prop :=
  ∃ (o : List Int) (ag : Bool) (i : Nat) (most : Int), Sl 157 [(1, .pointer (some ⟨g1, 0, none⟩)), (5, .int .i64 n), (6, .slice (some ⟨g, 0, none⟩) n cap), (8, .int .i64 most), (9, .bool ag), (10, .int .i64 (i : Nat))] ac ∧ i ≤ n ∧ RhI ins o ∧
    (ag = false → o = oS ∧ ∀ j, j < i → Done ins o j) ∧ unk o ≤ unk oS ∧ (ag = true → unk o < unk oS) ∧ OutB w g o r ∧ Mod Nil w0 w

set_option maxHeartbeats 3200000 in
set_option maxRecDepth 100000 in
theorem rh_pass {Q : Exit → Act → World → Prop} {ac : Act} {w0 w : World} {c : CodeT} {v : CodeV} {g1 g n cap : Nat} {r : List Value} {most : Int} {oS : List Int}
    (HF : Sl 157 [(1, .pointer (some ⟨g1, 0, none⟩)), (5, .int .i64 n), (6, .slice (some ⟨g, 0, none⟩) n cap), (8, .int .i64 most), (9, .bool false), (10, .int .i64 (0 : Nat))] ac)
    (hf : ∀ w', Mod Nil w0 w' → CodeF w' c v) (hk : Blk w0 g1 26 (codeArr c v)) (hi : RhI c.ins oS) (hn : c.ins.length = n) (hn2 : n ≤ 20000) (hfit : ∀ x ∈ c.ins, InsFit x) (hnc : n ≤ cap) (hcap : cap ≤ maxLen) (hg : w0.heap.size ≤ g) (hb : OutB w g oS r) (hm : Mod Nil w0 w)
    (hBad : ∀ a' w', Sl 157 [(2, .slice none 0 0), (3, .int .i64 0), (4, .bool false)] a' → Mod Nil w0 w' → Q .ret a' w')
    (hOk : ∀ a' w' o ag most', Sl 157 [(1, .pointer (some ⟨g1, 0, none⟩)), (5, .int .i64 n), (6, .slice (some ⟨g, 0, none⟩) n cap), (8, .int .i64 most'), (9, .bool ag)] a' → RhI c.ins o →
      (ag = false → ∀ j, j < n → Done c.ins o j) → unk o ≤ unk oS → (ag = true → unk o < unk oS) → OutB w' g o r → Mod Nil w0 w' → Q .normal a' w') :
    (part [1, 1, 1, 1, 1, 1, 1, 0, 1, 0, 0, 1, 0, 1, 1] rhBody).wp Tryd.prog Q ac w := by
  have HBAD := Lib.hid hBad
  have HOK := Lib.hid hOk
  have HC := Lib.hid hf
  have HKB := Lib.hid hk
  have HNN := Lib.hid hn
  have HFIT := Lib.hid hfit
  clear hBad hOk hf hk hn hfit
  conv => arg 2; whnf
  refine wp_block (wp_loop (RhL c.ins w0 g1 g n cap r oS) (fun ac _ => n - (intOf (ac.eval (.tmp 10))).toNat) ⟨oS, false, 0, most, HF, Nat.zero_le _, hi, fun _ => ⟨rfl, fun j hj => absurd hj (by omega)⟩, Nat.le_refl _, fun h => by (cases h), hb, hm⟩ ?_)
  clear HF hi hb hm
  rintro ac2 w2 ⟨o, ag, i, mo, HF, hin, hi, hag, hu, hat, hb, hm⟩
  have HMU := Lib.hid (show n - (intOf ((ac2.tmps[10]?).getD undef)).toNat = n - i by rw [HF.see 10 rfl]; simp [intOf])
  have HI := Lib.hid hi
  have HAG := Lib.hid hag
  have HU := Lib.hid hu
  have HAT := Lib.hid hat
  have HB := Lib.hid hb
  have HM := Lib.hid hm
  clear hi hag hu hat hb hm
  by_cases hlt : i < n
  · have hd : decide ((i : Int) < (n : Int)) = true := by simp; omega
    refine wp_seq (wp_seq (wp_region_lit ?_))
    refine sl_move HF rfl rfl (.inl rfl) (by decide) rfl ?_; clear HF; intro _ HF
    refine sl_move HF rfl rfl (.inl rfl) (by decide) rfl ?_; clear HF; intro _ HF
    refine sl_op HF rfl rfl (by decide) ?_; intro K hK; have e31 := HF.see 31 rfl; have e32 := HF.see 32 rfl; go_wp2_with fail; clear e31 e32 HF; intro _ HF
    refine sl_nil (wp_cond_true (HF.at 33 rfl) (wp_skip (sl_then (wp_seq ?_))))
    have HF2 := HF.keep [1, 5, 6, 8, 9, 10]
    simp only [pick, look] at HF2
    refine rh_round (w0 := w0) (c := c) (v := v) (o0 := o) (ag0 := ag) HF2 HC.out (HKB.out.keep HM.out id) HI.out HNN.out hn2 hlt HFIT.out hnc hcap hg HB.out HM.out ?_ ?_
    · intro a' w' h1 h2
      dsimp only [Exit.then, Exit.inBlock]
      exact HBAD.out _ _ h1 h2
    · intro a' w' o2 ag2 mo2 HF h1 h2 h3 h4 h5 h6
      have H2 := Lib.hid h2
      have H4 := Lib.hid h4
      clear h2 h4 HF2
      refine sl_then (wp_region_lit ?_)
      refine sl_move HF rfl rfl (.inl rfl) (by decide) rfl ?_; clear HF; intro _ HF
      refine sl_op HF rfl rfl (by decide) ?_; intro K hK; have e34 := HF.see 34 rfl; go_wp2_with fail; clear e34 HF; intro _ HF
      refine sl_move HF rfl rfl (.inr rfl) (by decide) rfl ?_; clear HF; intro _ HF
      have HF2 := HF.keep [1, 5, 6, 8, 9, 10]
      simp only [pick, look] at HF2
      refine wpList_nil ?_
      show _ ∧ _
      refine ⟨⟨o2, ag2, i + 1, mo2, by exact_mod_cast HF2, by omega, h1, fun h => ?_, Nat.le_trans h3 HU.out, fun h => ?_, h5, h6⟩, ?_⟩
      · obtain ⟨q1, q2, q3⟩ := H2.out h
        obtain ⟨q4, q5⟩ := HAG.out q2
        refine ⟨q1.trans q4, fun j hj => ?_⟩
        rcases Nat.lt_or_ge j i with hji | hji
        · rw [q1]; exact q5 j hji
        · obtain rfl : j = i := by omega
          exact q3
      · rcases H4.out h with h' | h'
        · have := HAT.out h'; omega
        · have := HU.out; omega
      · have e6 := HF2.see 10 rfl
        try simp only [Act.eval_tmp]
        rw [e6, HMU.out]
        simp only [intOf]
        omega
  · have hd : decide ((i : Int) < (n : Int)) = false := by simp; omega
    refine wp_seq (wp_seq (wp_region_lit ?_))
    refine sl_move HF rfl rfl (.inl rfl) (by decide) rfl ?_; clear HF; intro _ HF
    refine sl_move HF rfl rfl (.inl rfl) (by decide) rfl ?_; clear HF; intro _ HF
    refine sl_op HF rfl rfl (by decide) ?_; intro K hK; have e31 := HF.see 31 rfl; have e32 := HF.see 32 rfl; go_wp2_with fail; clear e31 e32 HF; intro _ HF
    refine sl_nil (wp_cond_false (HF.at 33 rfl) (wp_exit ?_))
    dsimp only [Exit.then]
    refine sl_exit ?_
    have HF2 := HF.keep [1, 5, 6, 8, 9]
    simp only [pick, look] at HF2
    exact HOK.out _ _ o ag mo HF2 HI.out (fun h j hj => (HAG.out h).2 j (by omega)) HU.out HAT.out HB.out HM.out

/-- Between two goings through. -/
def RhO (ins : List InsT) (w0 : World) (g1 g n cap : Nat) (r : List Value) (m : Nat) (ac : Act) (w : World) : Prop :=
  ∃ (o : List Int) (ag : Bool) (most : Int), Sl 157 [(1, .pointer (some ⟨g1, 0, none⟩)), (5, .int .i64 n), (6, .slice (some ⟨g, 0, none⟩) n cap), (8, .int .i64 most), (9, .bool ag)] ac ∧ RhI ins o ∧
    (ag = false → ∀ j, j < n → Done ins o j) ∧ m = unk o + (if ag then 1 else 0) ∧ OutB w g o r ∧ Mod Nil w0 w

set_option maxHeartbeats 3200000 in
set_option maxRecDepth 100000 in
theorem rh_all {Q : Exit → Act → World → Prop} {ac : Act} {w0 w : World} {c : CodeT} {v : CodeV} {g1 g n cap : Nat} {r : List Value} {most : Int} {oS : List Int}
    (HF : Sl 157 [(1, .pointer (some ⟨g1, 0, none⟩)), (5, .int .i64 n), (6, .slice (some ⟨g, 0, none⟩) n cap), (8, .int .i64 most), (9, .bool true)] ac)
    (hf : ∀ w', Mod Nil w0 w' → CodeF w' c v) (hk : Blk w0 g1 26 (codeArr c v)) (hi : RhI c.ins oS) (hn : c.ins.length = n) (hn2 : n ≤ 20000) (hfit : ∀ x ∈ c.ins, InsFit x) (hnc : n ≤ cap) (hcap : cap ≤ maxLen) (hg : w0.heap.size ≤ g) (hb : OutB w g oS r) (hm : Mod Nil w0 w)
    (hBad : ∀ a' w', Sl 157 [(2, .slice none 0 0), (3, .int .i64 0), (4, .bool false)] a' → Mod Nil w0 w' → Q .ret a' w')
    (hOk : ∀ a' w' most', Sl 157 [(6, .slice (some ⟨g, 0, none⟩) n cap), (8, .int .i64 most')] a' → (∃ f, Fits c.ins f) → Mod Nil w0 w' → Q .normal a' w') :
    (part [1, 1, 1, 1, 1, 1, 1, 0, 1] rhBody).wp Tryd.prog Q ac w := by
  have HBAD := Lib.hid hBad
  have HOK := Lib.hid hOk
  have HC := Lib.hid hf
  have HKB := Lib.hid hk
  have HNN := Lib.hid hn
  have HFIT := Lib.hid hfit
  clear hBad hOk hf hk hn hfit
  conv => arg 2; whnf
  refine wp_block (wp_loop_ghost (RhO c.ins w0 g1 g n cap r) (unk oS + 1) ⟨oS, true, most, HF, hi, fun h => by (cases h), rfl, hb, hm⟩ ?_)
  clear HF hi hb hm
  rintro m ac2 w2 ⟨o, ag, mo, HF, hi, hd, hmm, hb, hm⟩
  have HI := Lib.hid hi
  have HD := Lib.hid hd
  have HMM := Lib.hid hmm
  have HB := Lib.hid hb
  have HM := Lib.hid hm
  clear hi hd hmm hb hm
  rcases ag with _ | _
  · refine wp_seq (wp_seq (wp_region_lit ?_))
    refine sl_move HF rfl rfl (.inl rfl) (by decide) rfl ?_; clear HF; intro _ HF
    refine sl_nil (wp_cond_false (HF.at 30 rfl) (wp_exit ?_))
    dsimp only [Exit.then]
    refine sl_exit ?_
    have HF2 := HF.keep [6, 8]
    simp only [pick, look] at HF2
    exact HOK.out _ _ mo HF2 ⟨_, HI.out.fits (fun i hin => HD.out rfl i (by rw [HNN.out] at hin; exact hin))⟩ HM.out
  · refine wp_seq (wp_seq (wp_region_lit ?_))
    refine sl_move HF rfl rfl (.inl rfl) (by decide) rfl ?_; clear HF; intro _ HF
    refine sl_nil (wp_cond_true (HF.at 30 rfl) (wp_skip (sl_then (wp_block (wp_seq (wp_region_lit ?_))))))
    refine sl_const HF rfl rfl (.inr rfl) (by decide) ?_; clear HF; intro _ HF
    refine sl_nil (wp_seq (wp_region_lit ?_))
    refine sl_const HF rfl rfl (.inr rfl) (by decide) ?_; clear HF; intro _ HF
    have HF2 := HF.keep [1, 5, 6, 8, 9, 10]
    simp only [pick, look] at HF2
    refine sl_nil (rh_pass (c := c) (v := v) (oS := o) HF2 HC.out HKB.out HI.out HNN.out hn2 HFIT.out hnc hcap hg HB.out HM.out ?_ ?_)
    · intro a' w' h1 h2
      dsimp only [Exit.then, Exit.inBlock]
      exact HBAD.out _ _ h1 h2
    · intro a' w' o2 ag2 mo2 HF h1 h2 h3 h4 h5 h6
      dsimp only [Exit.then, Exit.inBlock]
      refine ⟨unk o2 + (if ag2 then 1 else 0), ?_, o2, ag2, mo2, HF, h1, h2, rfl, h5, h6⟩
      rw [HMM.out]
      rcases ag2 with _ | _
      · simp; omega
      · have := h4 rfl
        simp
        omega
end Go.Proofs.YtefloadjolpgbaaDoor

namespace Go.Proofs.YtefloadjolpgbaaDoor
open Go.RowKit

def RHgt (ins : List InsT) (w : World) (e : Ending) (w' : World) : Prop := ∃ v m ok, e = .returned (.tuple #[v, .int .i64 m, .bool ok]) ∧ (ok = true → 1 ≤ ins.length ∧ ∃ f, Fits ins f) ∧ Mod Nil w w'

theorem outb_of_own {w : World} {B n : Nat} {v : Value} {o : List Int} (h : w.ownsRow B 3 1 v n (o.map iv)) (hn : 0 < n) : ∃ g cap r, v = .slice (some ⟨g, 0, none⟩) n cap ∧ B ≤ g ∧ n ≤ cap ∧ cap ≤ maxLen ∧ OutB w g o r ∧ o.length = n := by
  rcases h.2 with ⟨_, h0⟩ | ⟨g, cap, cur, rfl, hb, hg, hnc, hcm, hcs, htk⟩
  · omega
  · refine ⟨g, cap, cur.toList.drop n, rfl, hb, hnc, hcm, ?_, by have := h.1; simpa using this⟩
    unfold OutB Blk
    rw [hg, ← htk, Nat.mul_one, List.take_append_drop]

/-- So many places laid. -/
def RhB (B g1 n : Nat) (w0 : World) (ac : Act) (w : World) : Prop :=
  ∃ (k : Nat) (v : Value), Sl 157 [(1, .pointer (some ⟨g1, 0, none⟩)), (5, .int .i64 n), (6, v), (7, .int .i64 (k : Nat))] ac ∧ k ≤ n ∧ w.ownsRow B 3 1 v k ((List.replicate k (-1 : Int)).map iv) ∧ Mod Nil w0 w

set_option maxHeartbeats 3200000 in
set_option maxRecDepth 100000 in
theorem rHeights_any (c : CodeT) (v : CodeV) (w : World) (hf : ∀ w', Mod Nil w w' → CodeF w' c v) (hn2 : c.ins.length ≤ 20000) (hx : ∀ x ∈ c.ins, InsFit x) :
    Calls Tryd.prog 21 #[.agg (codeArr c v)] w fun e w' => RHgt c.ins w e w' := by
  have hbk : Blk (w.alloc (.cells (codeArr c v) 26)) w.heap.size 26 (codeArr c v) := Blk.new _ _ _
  have hm1 := (Mod.refl Nil w).alloc (.cells (codeArr c v) 26)
  have HX := Lib.hid hx
  obtain ⟨n, hnn⟩ : ∃ n, c.ins.length = n := ⟨_, rfl⟩
  have HF0 := Lib.hid (show ∀ w', Mod Nil (w.alloc (.cells (codeArr c v) 26)) w' → CodeF w' c v from fun w' h => hf w' (hm1.trans h))
  clear hf hx
  refine sl_enter (n := 157) (fn := Tryd.f21) (c := rhBody) Tryd.func21 rfl rfl (by simp) fun ac HF => ?_
  conv => arg 2; whnf
  refine wp_seq (wp_region_lit ?_)
  refine sl_op HF rfl rfl (by decide) ?_; intro K hK; have e0 := HF.see 0 rfl; go_wp2_with fail; clear e0 HF; intro _ HF
  refine sl_const HF rfl rfl (.inr rfl) (by decide) ?_; clear HF; intro _ HF
  refine sl_const HF rfl rfl (.inr rfl) (by decide) ?_; clear HF; intro _ HF
  refine sl_const HF rfl rfl (.inr rfl) (by decide) ?_; clear HF; intro _ HF
  generalize w.alloc (.cells (codeArr c v) 26) = w1 at hbk hm1 HF0 ⊢
  generalize w.heap.size = g1 at hbk HF
  have HBK := Lib.hid hbk
  have HM1 := Lib.hid hm1
  obtain ⟨k0, k1, k2, k3, k4, k5⟩ := code_boxed hbk
  rw [hnn] at k3
  have HNN := Lib.hid hnn
  rw [hnn] at hn2
  clear hbk hm1 hnn
  refine sl_nil (wp_seq (wp_region_lit ?_))
  refine sl_op HF rfl rfl (by decide) ?_; intro K hK; have e1 := HF.see 1 rfl; go_wp2_with fail; clear e1 HF; intro _ HF
  refine sl_op HF rfl rfl (by decide) ?_; intro K hK; have e15 := HF.see 15 rfl; go_wp2_with fail; clear e15 HF; intro _ HF
  refine sl_op HF rfl rfl (by decide) ?_; intro K hK; have e16 := HF.see 16 rfl; go_wp2_with fail; clear e16 HF; intro _ HF
  refine sl_move HF rfl rfl (.inr rfl) (by decide) rfl ?_; clear HF; intro _ HF
  clear k0 k1 k2 k3 k4 k5
  refine sl_nil (wp_seq (wp_seq (wp_region_lit ?_)))
  by_cases hn0 : n = 0
  · have hq : ((n : Int) == 0) = true := by simp [hn0]
    clear hn0
    refine sl_move HF rfl rfl (.inl rfl) (by decide) rfl ?_; clear HF; intro _ HF
    refine sl_op HF rfl rfl (by decide) ?_; intro K hK; have e18 := HF.see 18 rfl; go_wp2_with fail; clear e18 HF; intro _ HF
    refine sl_nil (wp_cond_true (HF.at 19 rfl) (wp_seq (wp_region_lit ?_)))
    refine sl_const HF rfl rfl (.inr rfl) (by decide) ?_; clear HF; intro _ HF
    refine sl_const HF rfl rfl (.inr rfl) (by decide) ?_; clear HF; intro _ HF
    refine sl_const HF rfl rfl (.inr rfl) (by decide) ?_; clear HF; intro _ HF
    exact sl_nil (wp_ret (sl_ret3 HF rfl rfl rfl rfl ⟨_, _, false, rfl, (fun h => by cases h), HM1.out⟩))
  have hq : ((n : Int) == 0) = false := by simp [hn0]
  refine sl_move HF rfl rfl (.inl rfl) (by decide) rfl ?_; clear HF; intro _ HF
  refine sl_op HF rfl rfl (by decide) ?_; intro K hK; have e18 := HF.see 18 rfl; go_wp2_with fail; clear e18 HF; intro _ HF
  refine sl_nil (wp_cond_false (HF.at 19 rfl) (wp_skip (sl_then (wp_seq (wp_region_lit ?_)))))
  clear hq
  refine sl_const HF rfl rfl (.inr rfl) (by decide) ?_; clear HF; intro _ HF
  refine sl_nil (wp_seq (wp_seq (wp_region_lit ?_)))
  refine sl_const HF rfl rfl (.inr rfl) (by decide) ?_; clear HF; intro _ HF
  have HF2 := HF.keep [1, 5, 6, 7]
  simp only [pick, look] at HF2
  refine sl_nil (wp_block (wp_loop (RhB w1.heap.size g1 n w1) (fun ac _ => n - (intOf (ac.eval (.tmp 7))).toNat) ⟨0, _, HF2, Nat.zero_le _, World.ownsRow_nil _ _ _ _, Mod.refl _ _⟩ ?_))
  clear HF HF2
  rintro ac2 w2 ⟨k, v6, HF, hkn, hown, hm⟩
  have HMU := Lib.hid (show n - (intOf ((ac2.tmps[7]?).getD undef)).toNat = n - k by rw [HF.see 7 rfl]; simp [intOf])
  have HO := Lib.hid hown
  have HM := Lib.hid hm
  clear hown hm
  have hsz12 := HM.out.size
  by_cases hlt : k < n
  · have hd : decide ((k : Int) < (n : Int)) = true := by simp; omega
    refine wp_seq (wp_seq (wp_region_lit ?_))
    refine sl_move HF rfl rfl (.inl rfl) (by decide) rfl ?_; clear HF; intro _ HF
    refine sl_move HF rfl rfl (.inl rfl) (by decide) rfl ?_; clear HF; intro _ HF
    refine sl_op HF rfl rfl (by decide) ?_; intro K hK; have e20 := HF.see 20 rfl; have e21 := HF.see 21 rfl; go_wp2_with fail; clear e20 e21 HF; intro _ HF
    refine sl_nil (wp_cond_true (HF.at 22 rfl) (wp_skip (sl_then (wp_seq (wp_block (wp_region_lit ?_))))))
    refine sl_move HF rfl rfl (.inl rfl) (by decide) rfl ?_; clear HF; intro _ HF
    refine sl_op HF rfl rfl (by decide) ?_; intro K hK; go_wp2_with fail; clear HF; intro _ HF
    obtain ⟨i0', hi, hz0, hz1, hz2⟩ := info_parts int_info
    refine sl_append1 HF rfl rfl (by decide) rfl Tryd.underlying30 hi hz0 hz1 hz2 rfl rfl (HO.out.alloc _) rfl (news := [iv (-1)]) rfl (Rd.blk (Blk.new w2 _ _)) (by intro u hu; obtain rfl := List.mem_singleton.1 hu; rfl) (by omega) (by simp only [maxLen]; omega) (by simp; omega) ?_
    intro A' c' w' a' HF hA
    have HA := Lib.hid hA
    clear hA
    refine sl_move HF rfl rfl (.inr rfl) (by decide) rfl ?_; clear HF; intro _ HF
    refine wpList_nil ?_
    dsimp only [Exit.then, Exit.inBlock]
    refine wp_region_lit ?_
    refine sl_move HF rfl rfl (.inl rfl) (by decide) rfl ?_; clear HF; intro _ HF
    refine sl_op HF rfl rfl (by decide) ?_; intro K hK; have e23 := HF.see 23 rfl; go_wp2_with fail; clear e23 HF; intro _ HF
    refine sl_move HF rfl rfl (.inr rfl) (by decide) rfl ?_; clear HF; intro _ HF
    have HF2 := HF.keep [1, 5, 6, 7]
    simp only [pick, look] at HF2
    refine wpList_nil ?_
    show _ ∧ _
    refine ⟨⟨k + 1, _, by exact_mod_cast HF2, by omega, ?_, ?_⟩, ?_⟩
    · have := HA.out.own
      rw [List.replicate_succ']
      simpa using this
    · refine HM.out.trans' (((Mod.refl Nil w2).alloc _).trans' HA.out.mod (fun _ _ h => h.elim) (fun k _ h => h)) (fun _ _ h => h) (fun k hk h => by
        have := (HO.out.lt k h).1
        omega)
    · have e6 := HF2.see 7 rfl
      try simp only [Act.eval_tmp]
      rw [e6, HMU.out]
      simp only [intOf]
      omega
  · have hd : decide ((k : Int) < (n : Int)) = false := by simp; omega
    refine wp_seq (wp_seq (wp_region_lit ?_))
    refine sl_move HF rfl rfl (.inl rfl) (by decide) rfl ?_; clear HF; intro _ HF
    refine sl_move HF rfl rfl (.inl rfl) (by decide) rfl ?_; clear HF; intro _ HF
    refine sl_op HF rfl rfl (by decide) ?_; intro K hK; have e20 := HF.see 20 rfl; have e21 := HF.see 21 rfl; go_wp2_with fail; clear e20 e21 HF; intro _ HF
    refine sl_nil (wp_cond_false (HF.at 22 rfl) (wp_exit ?_))
    dsimp only [Exit.then]
    refine sl_exit (sl_then (wp_seq (wp_region_lit ?_)))
    obtain rfl : k = n := by omega
    obtain ⟨g, cap, r, rfl, hg, hnc, hcap, hob, hol⟩ := outb_of_own HO.out (by omega)
    have HOB := Lib.hid hob
    have h0n : 0 < k := by omega
    have hc0 : w2.cell? ⟨g, 0, none⟩ = some (.int .i64 (-1)) := hob.cell (by rw [List.getElem?_replicate, if_pos h0n])
    have hf0 : w2.frozen? ⟨g, 0, none⟩ = false := Blk.frozen hob 0
    have hcap' := hcap
    unfold maxLen at hcap'
    clear hob HO
    refine sl_move HF rfl rfl (.inl rfl) (by decide) rfl ?_; clear HF; intro _ HF
    refine sl_op HF rfl rfl (by decide) ?_; intro K hK; have e28 := HF.see 28 rfl; go_wp2_with fail; clear e28 HF; intro _ HF
    refine sl_op0 HF rfl rfl ?_; intro K hK; have e29 := HF.see 29 rfl; go_wp2_with fail; clear e29 HF; intro _ HF
    have hb3 := HOB.out.set (i := 0) (by rw [hol]; omega) 0
    have hm3 := HM.out.set (p := ⟨g, 0, none⟩) (.inr hg) (.int .i64 0)
    generalize w2.setCell ⟨g, 0, none⟩ (.int .i64 0) = w3 at hb3 hm3 ⊢
    have HB3 := Lib.hid hb3
    have HM3 := Lib.hid hm3
    clear hb3 hm3 hc0 hf0 HOB
    refine sl_nil (wp_seq (wp_region_lit ?_))
    refine sl_const HF rfl rfl (.inr rfl) (by decide) ?_; clear HF; intro _ HF
    refine sl_nil (wp_seq (wp_seq (wp_region_lit ?_)))
    refine sl_const HF rfl rfl (.inr rfl) (by decide) ?_; clear HF; intro _ HF
    have HF2 := HF.keep [1, 5, 6, 8, 9]
    simp only [pick, look] at HF2
    have hri : RhI c.ins ((List.replicate k (-1)).set 0 0) := by
      have := RhI.init (ins := c.ins) (by rw [HNN.out]; omega)
      rw [HNN.out] at this
      exact this
    refine sl_nil (rh_all (c := c) (v := v) HF2 HF0.out HBK.out hri HNN.out hn2 HX.out hnc hcap hg HB3.out HM3.out ?_ ?_)
    · intro a' w' HF hm
      dsimp only [Exit.then, Exit.inBlock]
      exact sl_ret3 HF rfl rfl rfl rfl ⟨_, _, false, rfl, (fun h => by cases h), HM1.out.trans hm⟩
    · intro a' w' mo HF hfit hm
      have HFT := Lib.hid hfit
      have HMM := Lib.hid hm
      clear hfit hm HF2
      refine sl_then (wp_seq (wp_region_lit ?_))
      refine sl_move HF rfl rfl (.inl rfl) (by decide) rfl ?_; clear HF; intro _ HF
      refine sl_move HF rfl rfl (.inl rfl) (by decide) rfl ?_; clear HF; intro _ HF
      refine sl_move HF rfl rfl (.inr rfl) (by decide) rfl ?_; clear HF; intro _ HF
      refine sl_move HF rfl rfl (.inr rfl) (by decide) rfl ?_; clear HF; intro _ HF
      refine sl_const HF rfl rfl (.inr rfl) (by decide) ?_; clear HF; intro _ HF
      exact sl_nil (wp_ret (sl_ret3 HF rfl rfl rfl rfl ⟨_, _, true, rfl, fun _ => ⟨by rw [HNN.out]; omega, HFT.out⟩, HM1.out.trans HMM.out⟩))
end Go.Proofs.YtefloadjolpgbaaDoor
