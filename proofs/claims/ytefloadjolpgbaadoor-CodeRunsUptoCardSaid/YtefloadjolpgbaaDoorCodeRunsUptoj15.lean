/- Parts of the proof of CodeRunsUpto, joined: Rgu Rgv Rgw Csw Csx Rfr. -/
import Derived.Test.YtefloadjolpgbaaDoorCodeRunsUptoj14
namespace Go.Proofs.YtefloadjolpgbaaDoor
open Go.RowKit

set_option maxHeartbeats 1600000 in
set_option maxRecDepth 100000 in
theorem right2_any {b : CodeT} {v : CodeV} {A9 : Option Addr} {n9 c9 g : Nat} (w : World) (hg : w.cell? ⟨g, 0, none⟩ = some (.slice A9 n9 c9)) (hgl : g < w.heap.size) {r : Bool}
    (hR : ∀ w', Mod Nil w w' → Calls Tryd.prog 18 #[.agg (kArr b v A9 n9 c9)] w' fun e w'' => e = .returned (.bool r) ∧ Mod Nil w' w'') :
    Calls Tryd.prog 36 #[.agg (codeArr b v), .pointer (some ⟨g, 0, none⟩)] w fun e w' => e = .returned (.bool (!r)) ∧ Mod Nil w w' := by
  have hm1 := (Mod.refl Nil w).alloc (.cells (codeArr b v) 26)
  have hb1 : Blk (w.alloc (.cells (codeArr b v) 26)) w.heap.size 26 (codeArr b v) := Blk.new _ _ _
  obtain ⟨k0, k1, k2, k3, k4, k5⟩ := code_boxed hb1
  have hgc := (hm1.cell (p := ⟨g, 0, none⟩) hgl id).trans hg
  have HR := Lib.hid (hR _ hm1)
  have HM := Lib.hid hm1
  clear hb1 hm1 hR hg
  unfold kArr at HR
  unfold codeArr at *
  go_enter Tryd.func36, Tryd.ntmps36
  go_wp2_with fail
  refine HR.out.mono ?_
  rintro e w2 ⟨rfl, hm⟩
  have HM2 := Lib.hid (HM.out.trans hm)
  clear hm
  go_wp2_with fail
  go_ret
  exact ⟨rfl, HM2.out⟩

set_option maxHeartbeats 1600000 in
set_option maxRecDepth 100000 in
theorem codeIndexF_any (A : Option Addr) (n cap g : Nat) (rows : List (List Value)) (w : World) (hn : rows.length = n) (hbig : n ≤ 20000) (h6 : ∀ r ∈ rows, r.length = 6) (hr : Rd All w A rows.flatten)
    (hC : ∀ (i : Nat) (r : List Value) (w' : World), rows[i]? = some r → Mod Nil w w' → Calls Tryd.prog 36 #[.agg r.toArray, .pointer (some ⟨g, 0, none⟩)] w' fun e w'' => e = .returned (.bool false) ∧ Mod Nil w' w'') :
    Calls Tryd.prog 55 #[.slice A n cap, k2Fn g] w fun e w' => e = .returned (.int .i64 (-1)) ∧ Mod Nil w w' := by
  have HR := Lib.hid hr
  have HC := Lib.hid hC
  have H6 := Lib.hid h6
  have HN := Lib.hid hn
  clear hr hC h6 hn
  unfold k2Fn
  go_enter Tryd.func55, Tryd.ntmps55
  go_wp2_with fail
  go_loopw [8] (fun i wr => ∃ (k : Nat), k ≤ n ∧ i = .int .i64 k ∧ Mod Nil w wr) (fun v _ => n - (intOf v).toNat)
  case atStart => exact ⟨0, Nat.zero_le _, rfl, Mod.refl _ _⟩
  case round =>
    obtain ⟨k, hk, rfl, hm⟩ := hrel
    have HM := Lib.hid hm
    clear hm
    by_cases hlt : k < n
    · obtain ⟨r, hri⟩ : ∃ r, rows[k]? = some r := ⟨_, List.getElem?_eq_getElem (by rw [HN.out]; exact hlt)⟩
      obtain ⟨ad, u0, u1, u2, u3, u4, u5, rfl, hab, rfl, e0, e1, e2, e3, e4, e5⟩ := rows_six (HR.out.keep0 HM.out) H6.out hri
      have HCC := Lib.hid (HC.out k _ _ hri HM.out)
      clear hri
      go_wp2_with fail
      refine HCC.out.mono ?_
      rintro e w2 ⟨rfl, hm⟩
      have HM2 := Lib.hid (HM.out.trans hm)
      clear hm
      go_wp2_with fail
      refine ⟨⟨k + 1, hlt, rfl, HM2.out⟩, ?_⟩
      simp [intOf]
      omega
    · go_wp2_with fail
      go_ret
      exact ⟨rfl, HM.out⟩

set_option maxHeartbeats 400000 in
set_option maxRecDepth 100000 in
theorem codeContainsF_any (A : Option Addr) (n cap g : Nat) (rows : List (List Value)) (w : World) (hn : rows.length = n) (hbig : n ≤ 20000) (h6 : ∀ r ∈ rows, r.length = 6) (hr : Rd All w A rows.flatten)
    (hC : ∀ (i : Nat) (r : List Value) (w' : World), rows[i]? = some r → Mod Nil w w' → Calls Tryd.prog 36 #[.agg r.toArray, .pointer (some ⟨g, 0, none⟩)] w' fun e w'' => e = .returned (.bool false) ∧ Mod Nil w' w'') :
    Calls Tryd.prog 35 #[.slice A n cap, k2Fn g] w fun e w' => e = .returned (.bool false) ∧ Mod Nil w w' := by
  have HI := Lib.hid (codeIndexF_any A n cap g rows w hn hbig h6 hr hC)
  unfold k2Fn at HI ⊢
  clear hr hC h6
  go_enter Tryd.func35, Tryd.ntmps35
  go_wp2_with fail
  refine HI.out.mono ?_
  rintro e w2 ⟨rfl, hm⟩
  have HM := Lib.hid hm
  clear hm
  go_wp2_with fail
  go_ret
  exact ⟨rfl, HM.out⟩
end Go.Proofs.YtefloadjolpgbaaDoor

namespace Go.Proofs.YtefloadjolpgbaaDoor
open Go.RowKit

theorem PhA.other {W wx w' : World} {rows : List (List Value)} {cs : List Value} {n : Nat} {S : Nat → Bool} {h : Hist} (hP : PhA W rows cs n S h wx) {m : Nat} (hm0 : 2 < m) (v : Value) {F : Nat → Prop} (hm : Mod F wx w') (hmW : Mod Nil W w')
    (hF : ∀ g cs, Blk wx g 26 cs → ¬ F g) : PhA W rows cs n (setB S m) (upd h m v) w' := by
  have own : ∀ {v : Value} {n : Nat} {xs : List Value}, wx.ownsRow W.heap.size 26 6 v n xs → w'.ownsRow W.heap.size 26 6 v n xs := fun ho => own_keep ho hm fun k hk => by
    rcases ho.2 with ⟨rfl, _⟩ | ⟨g, cap, cur, rfl, _, hg, _⟩
    · cases hk
    · cases hk
      exact hF _ _ hg
  refine ⟨hmW, fun h1 h2 => ?_, fun h1 => ?_, fun h1 => ?_⟩
  · rw [setB_ne _ (by omega)] at h1 h2
    rw [upd_ne _ _ (by omega)]
    exact own (hP.s0 h1 h2)
  · rw [setB_ne _ (by omega)] at h1
    rw [upd_ne _ _ (by omega)]
    obtain ⟨B, e, hb⟩ := hP.s1 h1
    refine ⟨B, e, fun h2 => ?_⟩
    rw [setB_ne _ (by omega)] at h2
    exact (hb h2).keep hm (hF _ _ (hb h2))
  · rw [setB_ne _ (by omega)] at h1
    rw [upd_ne _ _ (by omega)]
    exact own (hP.s2 h1)

structure PhB (W : World) (rows : List (List Value)) (cs : List Value) (n : Nat) (S : Nat → Bool) (h : Hist) (w : World) : Prop where
  a : PhA W rows cs n S h w
  s3 : S 3 = true → ∃ B, h 3 = .pointer (some ⟨B, 0, none⟩) ∧ W.heap.size ≤ B ∧ Blk w B 24 #[if S 4 then h 2 else .slice none 0 0]
theorem PhB.init {W : World} {rows : List (List Value)} {cs : List Value} {n : Nat} (h : Hist) : PhB W rows cs n (fun _ => false) h W := ⟨PhA.init h, fun h => by cases h⟩

theorem PhB.keep3 {W wx w' : World} {rows : List (List Value)} {cs : List Value} {n : Nat} {S : Nat → Bool} {h : Hist} (hP : PhB W rows cs n S h wx) {m : Nat} (hm : m < 3) {v : Value} (h4 : S 4 = false) {F : Nat → Prop} (hmo : Mod F wx w') (hF : ∀ g cs, Blk wx g 24 cs → ¬ F g)
    (ha : PhA W rows cs n (setB S m) (upd h m v) w') : PhB W rows cs n (setB S m) (upd h m v) w' := by
  refine ⟨ha, fun h3 => ?_⟩
  rw [setB_ne _ (by omega)] at h3
  obtain ⟨B, e, hB, hb⟩ := hP.s3 h3
  rw [h4] at hb
  refine ⟨B, by rw [upd_ne _ _ (by omega)]; exact e, hB, ?_⟩
  rw [setB_ne _ (by omega), h4]
  exact hb.keep hmo (hF _ _ hb)
theorem PhB.w3 {W wx : World} {rows : List (List Value)} {cs : List Value} {n : Nat} {S : Nat → Bool} {h : Hist} (hP : PhB W rows cs n S h wx) (h4 : S 4 = false) :
    PhB W rows cs n (setB S 3) (upd h 3 (.pointer (some ⟨wx.heap.size, 0, none⟩))) (wx.alloc (.cells #[.slice none 0 0] 24)) := by
  refine ⟨hP.a.other (by decide) _ ((Mod.refl Nil wx).alloc _) (hP.a.mod.alloc _) (fun _ _ _ h => h), fun _ => ⟨wx.heap.size, upd_same _ _ _, hP.a.mod.size, ?_⟩⟩
  rw [setB_ne _ (by decide), h4]
  exact Blk.new _ _ _
theorem PhB.w4 {W wx : World} {rows : List (List Value)} {cs : List Value} {n : Nat} {S : Nat → Bool} {h : Hist} (hP : PhB W rows cs n S h wx) {B : Nat} (h3 : S 3 = true) (e : h 3 = .pointer (some ⟨B, 0, none⟩)) (h4 : S 4 = false) (v : Value) :
    PhB W rows cs n (setB S 4) (upd h 4 v) (wx.setCell ⟨B, 0, none⟩ (h 2)) := by
  obtain ⟨B', e', hB, hb⟩ := hP.s3 h3
  rw [e] at e'
  cases e'
  have hm : Mod (fun k => k = B) wx (wx.setCell ⟨B, 0, none⟩ (h 2)) := Mod.set (F := fun k => k = B) (Mod.refl _ wx) (p := ⟨B, 0, none⟩) (.inl rfl) _
  have hmW : Mod Nil W (wx.setCell ⟨B, 0, none⟩ (h 2)) := hP.a.mod.set (p := ⟨B, 0, none⟩) (.inr hB) _
  refine ⟨hP.a.other (by decide) _ hm hmW (fun g cs hg he => ?_), fun _ => ⟨B, by rw [upd_ne _ _ (by decide)]; exact e, hB, ?_⟩⟩
  · exact hb.ne_ hg (by decide) he.symm
  · rw [setB_same, if_pos rfl, upd_ne _ _ (by decide)]
    have := hb.set_ 0 (h 2)
    simpa using this
end Go.Proofs.YtefloadjolpgbaaDoor

namespace Go.Proofs.YtefloadjolpgbaaDoor
open Go.RowKit

theorem CodeC.blocks_ {w : World} {c : CodeT} {cs : List Value} (h : CodeC w c cs) : ∃ A4 c4 rows, cs[4]? = some (.slice A4 c.blocks.length c4) ∧ RowsC w c.blocks rows ∧ Rd All w A4 rows.flatten := by
  cases h with
  | mk args vars lits ins blocks cls A2 A3 A4 c2 c3 c4 rows ha hv hcl hl hi n2 m2 n3 m3 n4 m4 r2 r3 r4 hr h6 hb => exact ⟨A4, c4, rows, rfl, ⟨hr, h6, hb⟩, r4⟩

noncomputable def crBody : Code := (Tryd.f18.body).getD .skip

set_option maxHeartbeats 3200000 in
set_option maxRecDepth 100000 in
theorem cRight_any : ∀ (m : Nat) (c : CodeT), SizeOf.sizeOf c ≤ m → ∀ {v : CodeV} {ar : List CodeT} {rows : List (List Value)} {A5 : Option Addr} {n5 c5 : Nat} (w : World), KF w c v ar rows A5 n5 c5 → PreP c ar → TxtP c → ((∃ f, Fits c.ins f) → ∀ b ∈ c.blocks, RightP b (ar ++ [c])) →
    Calls Tryd.prog 18 #[.agg (kArr c v A5 n5 c5)] w fun e w' => ∃ r, e = .returned (.bool r) ∧ (r = true ↔ ∃ f, Fits c.ins f) ∧ Mod Nil w w' := by
  intro m
  induction m with
  | zero => intro c hc; obtain ⟨a, v, l, is, bs, cl⟩ := c; simp at hc
  | succ m ih =>
  intro c hsz v ar rows A5 n5 c5 w hk hp ht hb
  have hbk : Blk (w.alloc (.cells (kArr c v A5 n5 c5) 41)) w.heap.size 41 (kArr c v A5 n5 c5) := Blk.new _ _ _
  have hm1 := (Mod.refl Nil w).alloc (.cells (kArr c v A5 n5 c5) 41)
  have HK := Lib.hid (hk.keep hm1)
  have HP := Lib.hid hp
  have HT := Lib.hid ht
  have HBL := Lib.hid hb
  have HSZ := Lib.hid hsz
  have IH := Lib.hid ih
  clear hk hp ht hb hsz ih
  refine sl_enter (n := 95) (fn := Tryd.f18) (c := crBody) Tryd.func18 rfl rfl (by simp) fun ac HF => ?_
  conv => arg 2; whnf
  refine wp_seq (wp_region_lit ?_)
  refine sl_op HF rfl rfl (by decide) ?_; intro K hK; have e0 := HF.see 0 rfl; go_wp2_with fail; clear e0 HF; intro _ HF
  refine sl_const HF rfl rfl (.inr rfl) (by decide) ?_; clear HF; intro _ HF
  generalize w.alloc (.cells (kArr c v A5 n5 c5) 41) = w1 at hbk hm1 HK ⊢
  generalize w.heap.size = g1 at hbk HF
  have HB1 := Lib.hid hbk
  have HM1 := Lib.hid hm1
  obtain ⟨k0, k1, k2, k3, k4, k5, k6⟩ := k_boxed hbk
  clear hbk hm1
  refine sl_nil (wp_seq (wp_region_lit ?_))
  refine sl_op HF rfl rfl (by decide) ?_; intro K hK; have e1 := HF.see 1 rfl; go_wp2_with fail; clear e1 HF; intro _ HF
  refine sl_op HF rfl rfl (by decide) ?_; intro K hK; have e9 := HF.see 9 rfl; go_wp2_with fail; clear e9 HF; intro _ HF
  refine sl_op HF rfl rfl (by decide) ?_; intro K hK; go_wp2_with fail; clear HF; intro _ HF
  refine sl_op0 HF rfl rfl ?_; intro K hK; have e3 := HF.see 3 rfl; have e10 := HF.see 10 rfl; go_wp2_with fail; clear e3 e10 HF; intro _ HF
  refine sl_nil (wp_seq (wp_seq (wp_region_lit ?_)))
  change wpList _ _ _ _ _ (w1.alloc (.cells (codeArr c v) 26))
  have hb2 : Blk (w1.alloc (.cells (codeArr c v) 26)) w1.heap.size 26 (codeArr c v) := Blk.new _ _ _
  have hm2 := (Mod.refl Nil w1).alloc (.cells (codeArr c v) 26)
  have HK2 := Lib.hid (HK.out.keep hm2)
  have HB2 := Lib.hid (HB1.out.keep hm2 id)
  have HM2 := Lib.hid (HM1.out.trans hm2)
  have HC2 := Lib.hid hb2
  clear hb2 hm2 HK HB1 HM1 k0 k1 k2 k3 k4 k5 k6
  generalize w1.alloc (.cells (codeArr c v) 26) = w2 at HC2 HK2 HB2 HM2 ⊢
  generalize w1.heap.size = g2 at HC2 HF
  obtain ⟨c0, c1, c2, c3, c4, c5'⟩ := code_boxed HC2.out
  have k6 := (k_boxed HB2.out).2.2.2.2.2.2
  have q0 : decide (c.args < 0) = false := by have := HP.out.a0; simp; omega
  have q1 : decide (c.vars < c.args) = false := by have := HP.out.av; simp; omega
  have q2 : decide (60 < c.vars) = false := by have := HP.out.v60; simp; omega
  have q3 : decide ((20000 : Int) < (c.ins.length : Int)) = false := by have := HP.out.i2; simp; omega
  have q4 : decide ((4000 : Int) < (c.blocks.length : Int)) = false := by have := HP.out.b4; simp; omega
  have q5 : decide ((20 : Int) < (n5 : Int)) = false := by have := HK2.out.kn; simp; omega
  have HLI := Lib.hid (lits_any v.A2 c.lits.length v.c2 c.lits w2 rfl (HK2.out.kf w2 (Mod.refl _ _)).r2)
  rw [show (decide (c.lits.length ≤ 4000) && !c.lits.any litBad) = true by rw [HP.out.lg]; simpa using HP.out.l4] at HLI
  refine sl_op HF rfl rfl (by decide) ?_; intro K hK; have e3 := HF.see 3 rfl; go_wp2_with fail; clear e3 HF; intro _ HF
  refine sl_op HF rfl rfl (by decide) ?_; intro K hK; have e11 := HF.see 11 rfl; go_wp2_with fail; clear e11 HF; intro _ HF
  refine sl_op HF rfl rfl (by decide) ?_; intro K hK; have e12 := HF.see 12 rfl; go_wp2_with fail; clear e12 HF; intro _ HF
  refine sl_move HF rfl rfl (.inl rfl) (by decide) rfl ?_; clear HF; intro _ HF
  refine sl_want HF rfl rfl rfl rfl (by decide) ?_; intro K hK; have e3 := HF.see 3 rfl; go_wp2_with fail; clear e3 HF; intro _ HF
  refine sl_want HF rfl rfl rfl rfl (by decide) ?_; intro K hK; have e15 := HF.see 15 rfl; go_wp2_with fail; clear e15 HF; intro _ HF
  refine sl_want HF rfl rfl rfl rfl (by decide) ?_; intro K hK; have e3 := HF.see 3 rfl; go_wp2_with fail; clear e3 HF; intro _ HF
  refine sl_want HF rfl rfl rfl rfl (by decide) ?_; intro K hK; have e17 := HF.see 17 rfl; go_wp2_with fail; clear e17 HF; intro _ HF
  refine sl_want HF rfl rfl rfl rfl (by decide) ?_; intro K hK; have e16 := HF.see 16 rfl; have e18 := HF.see 18 rfl; go_wp2_with fail; clear e16 e18 HF; intro _ HF
  refine sl_op HF rfl rfl (by decide) ?_; intro K hK; have e14 := HF.see 14 rfl; have e19 := HF.see 19 rfl; go_wp2_with fail; clear e14 e19 HF; intro _ HF
  refine sl_move HF rfl rfl (.inl rfl) (by decide) rfl ?_; clear HF; intro _ HF
  refine sl_want HF rfl rfl rfl rfl (by decide) ?_; intro K hK; have e3 := HF.see 3 rfl; go_wp2_with fail; clear e3 HF; intro _ HF
  refine sl_want HF rfl rfl rfl rfl (by decide) ?_; intro K hK; have e22 := HF.see 22 rfl; go_wp2_with fail; clear e22 HF; intro _ HF
  refine sl_want HF rfl rfl rfl rfl (by decide) ?_; intro K hK; have e23 := HF.see 23 rfl; go_wp2_with fail; clear e23 HF; intro _ HF
  refine sl_op HF rfl rfl (by decide) ?_; intro K hK; have e21 := HF.see 21 rfl; have e24 := HF.see 24 rfl; go_wp2_with fail; clear e21 e24 HF; intro _ HF
  refine sl_move HF rfl rfl (.inl rfl) (by decide) rfl ?_; clear HF; intro _ HF
  refine sl_want HF rfl rfl rfl rfl (by decide) ?_; intro K hK; have e3 := HF.see 3 rfl; go_wp2_with fail; clear e3 HF; intro _ HF
  refine sl_want HF rfl rfl rfl rfl (by decide) ?_; intro K hK; have e27 := HF.see 27 rfl; go_wp2_with fail; clear e27 HF; intro _ HF
  refine sl_want HF rfl rfl rfl rfl (by decide) ?_; intro K hK; have e28 := HF.see 28 rfl; go_wp2_with fail
  refine HLI.out.mono ?_
  rintro e w3 ⟨rfl, hm3⟩
  have HK3 := Lib.hid (HK2.out.keep hm3)
  have HB3 := Lib.hid (HB2.out.keep hm3 id)
  have HM3 := Lib.hid (HM2.out.trans hm3)
  have HC3 := Lib.hid (HC2.out.keep hm3 id)
  clear c0 c1 c2 c3 c4 c5' k6 HLI hm3 HK2 HB2 HM2 HC2
  go_wp2_with fail; clear e28 HF; intro _ HF
  obtain ⟨c0, c1, c2, c3, c4, c5'⟩ := code_boxed HC3.out
  have k6 := (k_boxed HB3.out).2.2.2.2.2.2
  refine sl_want HF rfl rfl rfl rfl (by decide) ?_; intro K hK; have e29 := HF.see 29 rfl; go_wp2_with fail; clear e29 HF; intro _ HF
  refine sl_op HF rfl rfl (by decide) ?_; intro K hK; have e26 := HF.see 26 rfl; have e30 := HF.see 30 rfl; go_wp2_with fail; clear e26 e30 HF; intro _ HF
  refine sl_move HF rfl rfl (.inl rfl) (by decide) rfl ?_; clear HF; intro _ HF
  refine sl_want HF rfl rfl rfl rfl (by decide) ?_; intro K hK; have e3 := HF.see 3 rfl; go_wp2_with fail; clear e3 HF; intro _ HF
  refine sl_want HF rfl rfl rfl rfl (by decide) ?_; intro K hK; have e33 := HF.see 33 rfl; go_wp2_with fail; clear e33 HF; intro _ HF
  refine sl_want HF rfl rfl rfl rfl (by decide) ?_; intro K hK; have e34 := HF.see 34 rfl; go_wp2_with fail; clear e34 HF; intro _ HF
  refine sl_want HF rfl rfl rfl rfl (by decide) ?_; intro K hK; have e35 := HF.see 35 rfl; go_wp2_with fail; clear e35 HF; intro _ HF
  refine sl_op HF rfl rfl (by decide) ?_; intro K hK; have e32 := HF.see 32 rfl; have e36 := HF.see 36 rfl; go_wp2_with fail; clear e32 e36 HF; intro _ HF
  refine sl_move HF rfl rfl (.inl rfl) (by decide) rfl ?_; clear HF; intro _ HF
  refine sl_want HF rfl rfl rfl rfl (by decide) ?_; intro K hK; have e3 := HF.see 3 rfl; go_wp2_with fail; clear e3 HF; intro _ HF
  refine sl_want HF rfl rfl rfl rfl (by decide) ?_; intro K hK; have e39 := HF.see 39 rfl; go_wp2_with fail; clear e39 HF; intro _ HF
  refine sl_want HF rfl rfl rfl rfl (by decide) ?_; intro K hK; have e40 := HF.see 40 rfl; go_wp2_with fail; clear e40 HF; intro _ HF
  refine sl_want HF rfl rfl rfl rfl (by decide) ?_; intro K hK; have e41 := HF.see 41 rfl; go_wp2_with fail; clear e41 HF; intro _ HF
  refine sl_op HF rfl rfl (by decide) ?_; intro K hK; have e38 := HF.see 38 rfl; have e42 := HF.see 42 rfl; go_wp2_with fail; clear e38 e42 HF; intro _ HF
  refine sl_move HF rfl rfl (.inl rfl) (by decide) rfl ?_; clear HF; intro _ HF
  refine sl_want HF rfl rfl rfl rfl (by decide) ?_; intro K hK; have e1 := HF.see 1 rfl; go_wp2_with fail; clear e1 HF; intro _ HF
  refine sl_want HF rfl rfl rfl rfl (by decide) ?_; intro K hK; have e45 := HF.see 45 rfl; go_wp2_with fail; clear e45 HF; intro _ HF
  refine sl_want HF rfl rfl rfl rfl (by decide) ?_; intro K hK; have e46 := HF.see 46 rfl; go_wp2_with fail; clear e46 HF; intro _ HF
  refine sl_want HF rfl rfl rfl rfl (by decide) ?_; intro K hK; have e47 := HF.see 47 rfl; go_wp2_with fail; clear e47 HF; intro _ HF
  refine sl_op HF rfl rfl (by decide) ?_; intro K hK; have e44 := HF.see 44 rfl; have e48 := HF.see 48 rfl; go_wp2_with fail; clear e44 e48 HF; intro _ HF
  refine sl_nil (wp_cond_false (HF.at 49 rfl) (wp_skip (sl_then (wp_seq (wp_seq (wp_region_lit ?_))))))
  clear q0 q1 q2 q3 q4 q5
  have HCL := Lib.hid (fun w => nmClass_any c.cls (by have := HT.out.cls; omega) w)
  refine sl_op HF rfl rfl (by decide) ?_; intro K hK; have e3 := HF.see 3 rfl; go_wp2_with fail; clear e3 HF; intro _ HF
  refine sl_op HF rfl rfl (by decide) ?_; intro K hK; have e50 := HF.see 50 rfl; go_wp2_with fail; clear e50 HF; intro _ HF
  refine sl_op HF rfl rfl (by decide) ?_; intro K hK; have e51 := HF.see 51 rfl; go_wp2_with fail
  refine (HCL.out _).mono ?_
  rintro e w4 ⟨rfl, hm4⟩
  have HK4 := Lib.hid (HK3.out.keep hm4)
  have HB4 := Lib.hid (HB3.out.keep hm4 id)
  have HM4 := Lib.hid (HM3.out.trans hm4)
  have HC4 := Lib.hid (HC3.out.keep hm4 id)
  clear c0 c1 c2 c3 c4 c5' k6 HCL hm4 HK3 HB3 HM3 HC3
  go_wp2_with fail; clear e51 HF; intro _ HF
  refine sl_move HF rfl rfl (.inr rfl) (by decide) rfl ?_; clear HF; intro _ HF
  have hrest : ∀ a', Sl 95 [(1, .pointer (some ⟨g1, 0, none⟩)), (2, .bool false), (3, .pointer (some ⟨g2, 0, none⟩))] a' → (part [1, 1, 1, 1] crBody).wp Tryd.prog (bodyPost Tryd.prog Tryd.f18 (fun e w' => ∃ r, e = .returned (.bool r) ∧ (r = true ↔ ∃ f, Fits c.ins f) ∧ Mod Nil w w')) a' w4 := by
    clear HF
    intro a2 HF
    obtain ⟨c0, c1, c2, c3, c4, c5'⟩ := code_boxed HC4.out
    have hany : (c.ins.any fun x => !mayF c ar x) = false := by
      rw [List.any_eq_false]
      intro x hx
      rw [HP.out.may x hx]
      decide
    have HIN := Lib.hid (insContainsF_any g1 v.A3 c.ins.length v.c3 c.ins w4 HK4.out (HK4.out.kf w4 (Mod.refl _ _)).oki HB4.out rfl HP.out.i2 (HK4.out.kf w4 (Mod.refl _ _)).r3)
    rw [hany] at HIN
    unfold kFn at HIN
    clear hany
    conv => arg 2; whnf
    refine wp_seq (wp_seq (wp_region_lit ?_))
    refine sl_op HF rfl rfl (by decide) ?_; intro K hK; have e3 := HF.see 3 rfl; go_wp2_with fail; clear e3 HF; intro _ HF
    refine sl_op HF rfl rfl (by decide) ?_; intro K hK; have e72 := HF.see 72 rfl; go_wp2_with fail; clear e72 HF; intro _ HF
    refine sl_op HF rfl rfl (by decide) ?_; intro K hK; have e1 := HF.see 1 rfl; go_wp2_with fail; clear e1 HF; intro _ HF
    refine sl_op HF rfl rfl (by decide) ?_; intro K hK; have e73 := HF.see 73 rfl; have e74 := HF.see 74 rfl; go_wp2_with fail
    refine HIN.out.mono ?_
    rintro e w5 ⟨rfl, hm5⟩
    have HK5 := Lib.hid (HK4.out.keep hm5)
    have HB5 := Lib.hid (HB4.out.keep hm5 id)
    have HM5 := Lib.hid (HM4.out.trans hm5)
    have HC5 := Lib.hid (HC4.out.keep hm5 id)
    clear c0 c1 c2 c3 c4 c5' HIN hm5 HK4 HB4 HM4 HC4
    go_wp2_with fail; clear e73 e74 HF; intro _ HF
    refine sl_nil (wp_cond_false (HF.at 75 rfl) (wp_skip (sl_then (wp_seq (wp_seq (wp_region_lit ?_))))))
    have HF2 := HF.keep [1, 2, 3]
    simp only [pick, look] at HF2
    clear HF
    have HF := HF2
    clear HF2
    obtain ⟨k0, k1, k2, k3, k4, k5, k6⟩ := k_boxed HB5.out
    have HHG := Lib.hid (heights_any c v A5 n5 c5 w5 HK5.out.kf HP.out.i1 HP.out.i2 (fun x hx => ins_fit (HP.out.may x hx)))
    unfold kArr at HHG
    refine sl_op HF rfl rfl (by decide) ?_; intro K hK; have e1 := HF.see 1 rfl; go_wp2_with fail; clear e1 HF; intro _ HF
    refine sl_op HF rfl rfl (by decide) ?_; intro K hK; have e77 := HF.see 77 rfl; go_wp2_with fail
    refine HHG.out.mono ?_
    rintro e w6 ⟨hm6, hres⟩
    have HK6 := Lib.hid (HK5.out.keep hm6)
    have HB6 := Lib.hid (HB5.out.keep hm6 id)
    have HM6 := Lib.hid (HM5.out.trans hm6)
    have HC6 := Lib.hid (HC5.out.keep hm6 id)
    clear k0 k1 k2 k3 k4 k5 k6 HHG hm6 HK5 HB5 HM5 HC5
    rcases hres with ⟨gh, oh, mh, rfl, _, _, _, hfit, _⟩ | ⟨rfl, hnf⟩
    · have HFIT := Lib.hid (show ∃ f, Fits c.ins f from ⟨_, hfit⟩)
      clear hfit
      go_wp2_with fail; clear e77 HF; intro _ HF
      refine sl_move HF rfl rfl (.inl rfl) (by decide) rfl ?_; clear HF; intro _ HF
      refine sl_op HF rfl rfl (by decide) ?_; intro K hK; have e76 := HF.see 76 rfl; go_wp2_with fail; clear e76 HF; intro _ HF
      refine sl_op HF rfl rfl (by decide) ?_; intro K hK; have e76 := HF.see 76 rfl; go_wp2_with fail; clear e76 HF; intro _ HF
      refine sl_op HF rfl rfl (by decide) ?_; intro K hK; have e76 := HF.see 76 rfl; go_wp2_with fail; clear e76 HF; intro _ HF
      refine sl_move HF rfl rfl (.inr rfl) (by decide) rfl ?_; clear HF; intro _ HF
      refine sl_move HF rfl rfl (.inr rfl) (by decide) rfl ?_; clear HF; intro _ HF
      refine sl_move HF rfl rfl (.inr rfl) (by decide) rfl ?_; clear HF; intro _ HF
      refine sl_nil (wp_seq (wp_region_lit ?_))
      refine sl_move HF rfl rfl (.inl rfl) (by decide) rfl ?_; clear HF; intro _ HF
      refine sl_op HF rfl rfl (by decide) ?_; intro K hK; have e82 := HF.see 82 rfl; go_wp2_with fail; clear e82 HF; intro _ HF
      refine sl_nil (wp_cond_false (HF.at 83 rfl) (wp_skip (sl_then (wp_seq ?_))))
      have HF2 := HF.keep [1, 2, 3]
      simp only [pick, look] at HF2
      clear HF
      have HF := HF2
      clear HF2
      obtain ⟨W, hW⟩ : ∃ W, W = w6.drew := ⟨_, rfl⟩
      have HW := Lib.hid hW
      have HKW := Lib.hid (show ∀ w', Mod Nil W w' → _ from fun w' h => k_boxed ((show Blk W g1 41 (kArr c v A5 n5 c5) by rw [hW]; exact HB6.out).keep h id))
      have HCW := Lib.hid (show ∀ w', Mod Nil W w' → _ from fun w' h => code_boxed ((show Blk W g2 26 (codeArr c v) by rw [hW]; exact HC6.out).keep h id))
      have HAW := Lib.hid (show KF W c v ar rows A5 n5 c5 from hW ▸ HK6.out.keep ((Mod.refl Nil w6).drew))
      have HMW := Lib.hid (show Mod Nil w W from hW ▸ HM6.out.trans ((Mod.refl Nil w6).drew))
      clear hW
      obtain ⟨i0, hi, hz0, hz1, hz2⟩ := info_parts code_info
      apply sl_flow6 (N := 5) [some 84, some 85, some 86, some 87, some 88, some 89, some 8, none] [.quiet [] [0, 2, 4], .quiet [] [0, 2, 4], .writes 0 [] [2, 4], .quiet [] [1, 2, 4], .writes 1 [] [2, 4], .writes 2 [0, 1] [4], .writes 3 [] [4], .writes 4 [0, 1, 2, 3] []] (PhB W rows (codeArr c v).toList n5) [_, _, (fun h => h 0), _, (fun h => h 1), (fun h => h 2), (fun h => h 3), (fun h => h 4)] HF
      case hm => kernel_rfl
      case hok => kernel_rfl
      case hfl => rfl
      case h0 => exact (fun h => HW.out ▸ PhB.init h)
      case hobs =>
        apply And.intro
        · apply obm_quiet
          case hg => rfl
          case hop =>
            intro ax wx h S hD hE hP hk K hK
            have e1 := hk.see 1 rfl rfl
            have n0 := hE 0 (by decide)
            have n2 := hE 2 (by decide)
            have n4 := hE 4 (by decide)
            clear hk hD hE
            go_wp2_with fail
            all_goals first | exact hP | rfl
          case hst => exact fun h h' e => rfl
        apply And.intro
        · apply obm_quiet
          case hg => rfl
          case hop =>
            intro ax wx h S hD hE hP hk K hK
            have e84 := hk.see 84 rfl rfl
            have n0 := hE 0 (by decide)
            have n2 := hE 2 (by decide)
            have n4 := hE 4 (by decide)
            clear hk hD hE
            obtain ⟨k0, k1, k2, k3, k4, k5, k6⟩ := HKW.out _ hP.a.mod
            go_wp2_with fail
            all_goals first | exact hP | rfl
          case hst => exact fun h h' e => rfl
        refine And.intro (obm_writes rfl ?op) ?_
        case op =>
          intro ax wx h S hD hE hS hP hk K hK
          have e85 := hk.see 85 rfl rfl
          have n2 := hE 2 (by decide)
          have n4 := hE 4 (by decide)
          clear hk hD hE
          have HP := Lib.hid hP
          have HCL := Lib.hid (clone_any wx (HAW.out.ka.keep hP.a.mod) (by have := HAW.out.kn; omega))
          clear hP
          go_wp2_with fail
          refine HCL.out.mono ?_
          rintro e w' ⟨v', rfl, hm, hown⟩
          exact hK _ _ (HP.out.keep3 (by decide) n4 hm (fun _ _ _ h => h) (HP.out.a.w0 n2 hm hown))
        apply And.intro
        · apply obm_quiet
          case hg => rfl
          case hop =>
            intro ax wx h S hD hE hP hk K hK
            have e3 := hk.see 3 rfl rfl
            have n1 := hE 1 (by decide)
            have n2 := hE 2 (by decide)
            have n4 := hE 4 (by decide)
            clear hk hD hE
            obtain ⟨k0, k1, k2, k3, k4, k5⟩ := HCW.out _ hP.a.mod
            go_wp2_with fail
            all_goals first | exact hP | rfl
          case hst => exact fun h h' e => rfl
        refine And.intro (obm_writes rfl ?op) ?_
        case op =>
          intro ax wx h S hD hE hS hP hk K hK
          have e87 := hk.see 87 rfl rfl
          have n2 := hE 2 (by decide)
          have n4 := hE 4 (by decide)
          clear hk hD hE
          dsimp only at e87
          have HP := Lib.hid hP
          clear hP
          go_wp2_with fail
          exact HP.out.keep3 (by decide) n4 ((Mod.refl Nil wx).alloc _) (fun _ _ _ h => h) (HP.out.a.w1 n2)
        refine And.intro (obm_writes rfl ?op) ?_
        case op =>
          intro ax wx h S hD hE hS hP hk K hK
          have e86 := hk.see 86 rfl rfl
          have e88 := hk.see 88 rfl rfl
          try dsimp only at e86 e88
          have d0 := hD 0 (by decide)
          have d1 := hD 1 (by decide)
          have n4 := hE 4 (by decide)
          clear hk hD hE
          have hown := hP.a.s0 d0 hS
          exact hP.a.w2 d0 d1 hS rfl rfl Tryd.underlying24 hi hz0 hz1 hz2 rfl e86 e88 rfl (by intro u hu; simp only [codeArr, List.mem_cons, List.not_mem_nil, or_false] at hu; rcases hu with rfl | rfl | rfl | rfl | rfl | rfl <;> rfl) (by have := HAW.out.kn; omega) (fun v' w' h hm => hK v' w' (hP.keep3 (by decide) n4 hm (fun g cs hg hk => by
            rcases hown.2 with ⟨e, _⟩ | ⟨g', cap, cur, e, _, hg', _⟩
            · rw [e] at hk; cases hk
            · rw [e] at hk
              have : g' = g := by simpa [Value.ownBlock] using hk
              subst this
              exact Blk.ne_ hg hg' (by decide) rfl) h))
        refine And.intro (obm_writes rfl ?op) ?_
        case op =>
          intro ax wx h S hD hE hS hP hk K hK
          have n4 := hE 4 (by decide)
          clear hk hD hE
          have HP := Lib.hid hP
          clear hP
          go_wp2_with fail
          exact HP.out.w3 n4
        refine And.intro (obm_writes rfl ?op) ?_
        case op =>
          intro ax wx h S hD hE hS hP hk K hK
          have e8 := hk.see 8 rfl rfl
          have e89 := hk.see 89 rfl rfl
          try dsimp only at e8 e89
          have d0 := hD 0 (by decide)
          have d1 := hD 1 (by decide)
          have d2 := hD 2 (by decide)
          have d3 := hD 3 (by decide)
          clear hk hD hE
          obtain ⟨B, e, hB, hb⟩ := hP.s3 d3
          rw [hS] at hb
          rw [e] at e8
          have hcb := hb.cell 0
          have hfb := hb.frozen 0
          simp only [List.getElem?_toArray, List.getElem?_cons_zero, Bool.false_eq_true, if_false] at hcb
          obtain ⟨A9, c9, e9, _, _⟩ := own_slice (hP.a.s2 d2)
          rw [e9] at e89
          have HP := Lib.hid (hP.w4 d3 e hS undef)
          rw [e9] at HP
          clear hP hb e
          go_wp2_with fail
          exact hK undef _ HP.out
        exact trivial
      intro w7 a7 h S hall hP HF
      have hP3 := hP.s3 (hall 3 (by decide))
      rw [hall 4 (by decide), if_pos rfl] at hP3
      obtain ⟨B, e8, hB, hb⟩ := hP3
      have hmW : Mod Nil w w7 := HMW.out.trans hP.a.mod
      have hk7 := HAW.out.keep hP.a.mod
      have hrows : RowsC w7 (ar ++ [c]) (rows ++ [(codeArr c v).toList]) := hk7.ka.rws.snoc hk7.kc rfl
      have hown := hP.a.s2 (hall 2 (by decide))
      have hnl : n5 + 1 = (ar ++ [c]).length := by rw [List.length_append, ← hk7.ka.cnt]; rfl
      rw [hnl] at hown
      obtain ⟨A9, c9, e2, hA9⟩ := AroF.of_own hown hrows
      rw [← hnl] at e2 hA9
      rw [e2] at hb
      have HF2 := HF.keep [3, 8]
      simp only [pick, look, laid5, e8] at HF2
      have HM7 := Lib.hid hmW
      have HA9 := Lib.hid hA9
      have HB9 := Lib.hid hb
      have HK7 := Lib.hid hk7
      obtain ⟨c0, c1, c2, c3, c4, c5'⟩ := HCW.out _ hP.a.mod
      clear HF hall hP hrows hown hnl e2 hA9 hb hmW hk7 HKW HAW HCW HW HMW hi hz0 hz1 hz2 HB6 HC6 HM6 HK6 e8
      have HF := HF2
      clear HF2
      -- the blocks
      have hcontains : Calls Tryd.prog 35 #[.slice v.A4 c.blocks.length v.c4, k2Fn B] w7 fun e w' => e = .returned (.bool false) ∧ Mod Nil w7 w' := by
        have hA9' := HA9.out
        obtain ⟨A4, c4', rowsB, e4, hrb, hrd⟩ := HK7.out.kc.blocks_
        have e4' : some (Value.slice v.A4 c.blocks.length v.c4) = some (.slice A4 c.blocks.length c4') := e4
        injection e4' with e4'
        injection e4' with e4' _ e5'
        subst e4'
        refine codeContainsF_any _ _ _ B rowsB w7 hrb.len (by have := HP.out.b4; omega) hrb.six hrd fun i r w' hri hm => ?_
        have hil : i < c.blocks.length := by have := (List.getElem?_eq_some_iff.1 hri).1; rw [hrb.len] at this; exact this
        obtain ⟨b, hbi⟩ : ∃ b, c.blocks[i]? = some b := ⟨_, List.getElem?_eq_getElem hil⟩
        have hbc := (hrb.code i b r hbi hri).keep hm
        obtain ⟨vb, hvb, hvf⟩ := hbc.view
        have hbm := List.mem_of_getElem? hbi
        have hrp := HBL.out HFIT.out b hbm
        have htb := HT.out.blk b hbm
        have hkb : KF w' b vb (ar ++ [c]) (rows ++ [(codeArr c v).toList]) A9 (n5 + 1) c9 := ⟨hvf, by rw [← hvb]; simpa using hbc, hA9'.keep hm, by
          have := hrp.pre.r20
          rw [List.length_append, ← HK7.out.ka.cnt] at this
          simpa using this, htb.lits⟩
        rw [hvb]
        have hgc := ((hm.cell (p := ⟨B, 0, none⟩) HB9.out.lt id).trans (HB9.out.cell 0))
        simp only [List.getElem?_toArray, List.getElem?_cons_zero] at hgc
        refine (right2_any (r := true) w' hgc (Nat.lt_of_lt_of_le HB9.out.lt hm.size) fun w'' hm2 => ?_).mono (fun e w3 h => h)
        refine (IH.out b (by have := block_lt hbi; have := HSZ.out; omega) w'' (hkb.keep hm2) hrp.pre htb (fun _ => hrp.blk)).mono ?_
        rintro e w3 ⟨r, rfl, hr, hm3⟩
        exact ⟨by rw [hr.2 hrp.fit], hm3⟩
      have HCO := Lib.hid hcontains
      clear hcontains
      unfold k2Fn at HCO
      refine wp_seq (wp_region_lit ?_)
      refine sl_op HF rfl rfl (by decide) ?_; intro K hK; have e3 := HF.see 3 rfl; go_wp2_with fail; clear e3 HF; intro _ HF
      refine sl_op HF rfl rfl (by decide) ?_; intro K hK; have e90 := HF.see 90 rfl; go_wp2_with fail; clear e90 HF; intro _ HF
      refine sl_op HF rfl rfl (by decide) ?_; intro K hK; have e8 := HF.see 8 rfl; go_wp2_with fail; clear e8 HF; intro _ HF
      refine sl_op HF rfl rfl (by decide) ?_; intro K hK; have e91 := HF.see 91 rfl; have e92 := HF.see 92 rfl; go_wp2_with fail
      refine HCO.out.mono ?_
      rintro e w8 ⟨rfl, hm8⟩
      have HM8 := Lib.hid (HM7.out.trans hm8)
      clear hm8
      go_wp2_with fail; clear e91 e92 HF; intro _ HF
      refine sl_op HF rfl rfl (by decide) ?_; intro K hK; have e93 := HF.see 93 rfl; go_wp2_with fail; clear e93 HF; intro _ HF
      refine sl_move HF rfl rfl (.inr rfl) (by decide) rfl ?_; clear HF; intro _ HF
      exact sl_nil (wp_ret (sl_ret1 HF rfl rfl ⟨true, rfl, ⟨(fun _ => HFIT.out), (fun _ => rfl)⟩, HM8.out⟩))
    · have HNF := Lib.hid hnf
      clear hnf
      go_wp2_with fail; clear e77 HF; intro _ HF
      refine sl_move HF rfl rfl (.inl rfl) (by decide) rfl ?_; clear HF; intro _ HF
      refine sl_op HF rfl rfl (by decide) ?_; intro K hK; have e76 := HF.see 76 rfl; go_wp2_with fail; clear e76 HF; intro _ HF
      refine sl_op HF rfl rfl (by decide) ?_; intro K hK; have e76 := HF.see 76 rfl; go_wp2_with fail; clear e76 HF; intro _ HF
      refine sl_op HF rfl rfl (by decide) ?_; intro K hK; have e76 := HF.see 76 rfl; go_wp2_with fail; clear e76 HF; intro _ HF
      refine sl_move HF rfl rfl (.inr rfl) (by decide) rfl ?_; clear HF; intro _ HF
      refine sl_move HF rfl rfl (.inr rfl) (by decide) rfl ?_; clear HF; intro _ HF
      refine sl_move HF rfl rfl (.inr rfl) (by decide) rfl ?_; clear HF; intro _ HF
      refine sl_nil (wp_seq (wp_region_lit ?_))
      refine sl_move HF rfl rfl (.inl rfl) (by decide) rfl ?_; clear HF; intro _ HF
      refine sl_op HF rfl rfl (by decide) ?_; intro K hK; have e82 := HF.see 82 rfl; go_wp2_with fail; clear e82 HF; intro _ HF
      refine sl_nil (wp_cond_true (HF.at 83 rfl) (wp_seq (wp_region_lit ?_)))
      refine sl_const HF rfl rfl (.inr rfl) (by decide) ?_; clear HF; intro _ HF
      refine sl_nil (wp_ret ?_)
      dsimp only [Exit.then, Exit.inBlock]
      exact sl_ret1 HF rfl rfl ⟨false, rfl, ⟨(fun h => by cases h), (fun h => absurd h HNF.out)⟩, HM6.out⟩
  obtain ⟨c0, c1, c2, c3, c4, c5'⟩ := code_boxed HC4.out
  have k6 := (k_boxed HB4.out).2.2.2.2.2.2
  have HRE := Lib.hid hrest
  clear hrest
  refine sl_nil (wp_seq (wp_region_lit ?_))
  by_cases hn0 : n5 = 0
  · have har : ar = [] := List.eq_nil_of_length_eq_zero (by rw [← HK4.out.ka.cnt]; exact hn0)
    have HTP := HP.out.top har
    subst hn0
    rw [HTP] at HF
    refine sl_op HF rfl rfl (by decide) ?_; intro K hK; have e1 := HF.see 1 rfl; go_wp2_with fail; clear e1 HF; intro _ HF
    refine sl_op HF rfl rfl (by decide) ?_; intro K hK; have e53 := HF.see 53 rfl; go_wp2_with fail; clear e53 HF; intro _ HF
    refine sl_op HF rfl rfl (by decide) ?_; intro K hK; have e54 := HF.see 54 rfl; go_wp2_with fail; clear e54 HF; intro _ HF
    refine sl_op HF rfl rfl (by decide) ?_; intro K hK; have e55 := HF.see 55 rfl; go_wp2_with fail; clear e55 HF; intro _ HF
    refine sl_move HF rfl rfl (.inl rfl) (by decide) rfl ?_; clear HF; intro _ HF
    refine sl_want HF rfl rfl rfl rfl (by decide) ?_; intro K hK; have e4 := HF.see 4 rfl; go_wp2_with fail; clear e4 HF; intro _ HF
    refine sl_want HF rfl rfl rfl rfl (by decide) ?_; intro K hK; have e58 := HF.see 58 rfl; go_wp2_with fail; clear e58 HF; intro _ HF
    refine sl_op HF rfl rfl (by decide) ?_; intro K hK; have e57 := HF.see 57 rfl; have e59 := HF.see 59 rfl; go_wp2_with fail; clear e57 e59 HF; intro _ HF
    refine sl_move HF rfl rfl (.inl rfl) (by decide) rfl ?_; clear HF; intro _ HF
    refine sl_want HF rfl rfl rfl rfl (by decide) ?_; intro K hK; have e1 := HF.see 1 rfl; go_wp2_with fail; clear e1 HF; intro _ HF
    refine sl_want HF rfl rfl rfl rfl (by decide) ?_; intro K hK; have e62 := HF.see 62 rfl; go_wp2_with fail; clear e62 HF; intro _ HF
    refine sl_want HF rfl rfl rfl rfl (by decide) ?_; intro K hK; have e63 := HF.see 63 rfl; go_wp2_with fail; clear e63 HF; intro _ HF
    refine sl_want HF rfl rfl rfl rfl (by decide) ?_; intro K hK; have e64 := HF.see 64 rfl; go_wp2_with fail; clear e64 HF; intro _ HF
    refine sl_want HF rfl rfl rfl rfl (by decide) ?_; intro K hK; have e65 := HF.see 65 rfl; go_wp2_with fail; clear e65 HF; intro _ HF
    refine sl_skip HF rfl rfl rfl rfl (by decide) ?_; clear HF; intro _ HF
    refine sl_skip HF rfl rfl rfl rfl (by decide) ?_; clear HF; intro _ HF
    refine sl_skip HF rfl rfl rfl rfl (by decide) ?_; clear HF; intro _ HF
    refine sl_want HF rfl rfl rfl rfl (by decide) ?_; intro K hK; have e66 := HF.see 66 rfl; have e69 := HF.see 69 rfl; go_wp2_with fail; clear e66 e69 HF; intro _ HF
    refine sl_op HF rfl rfl (by decide) ?_; intro K hK; have e61 := HF.see 61 rfl; have e70 := HF.see 70 rfl; go_wp2_with fail; clear e61 e70 HF; intro _ HF
    refine sl_nil (wp_cond_false (HF.at 71 rfl) (wp_skip (sl_then ?_)))
    have HF2 := HF.keep [1, 2, 3]
    simp only [pick, look] at HF2
    exact HRE.out _ HF2
  · have hz : ((n5 : Int) == 0) = false := by simpa using hn0
    have hz2 : decide (0 < n5) = true := by simp; omega
    have har : ar ≠ [] := fun h => hn0 (by rw [HK4.out.ka.cnt, h]; rfl)
    have hci := HP.out.inn har
    rw [hci] at c5'
    have hse : (str []).toList = [] := cstr_toList []
    refine sl_op HF rfl rfl (by decide) ?_; intro K hK; have e1 := HF.see 1 rfl; go_wp2_with fail; clear e1 HF; intro _ HF
    refine sl_op HF rfl rfl (by decide) ?_; intro K hK; have e53 := HF.see 53 rfl; go_wp2_with fail; clear e53 HF; intro _ HF
    refine sl_op HF rfl rfl (by decide) ?_; intro K hK; have e54 := HF.see 54 rfl; go_wp2_with fail; clear e54 HF; intro _ HF
    refine sl_op HF rfl rfl (by decide) ?_; intro K hK; have e55 := HF.see 55 rfl; go_wp2_with fail; clear e55 HF; intro _ HF
    refine sl_move HF rfl rfl (.inl rfl) (by decide) rfl ?_; clear HF; intro _ HF
    refine sl_skip HF rfl rfl rfl rfl (by decide) ?_; clear HF; intro _ HF
    refine sl_skip HF rfl rfl rfl rfl (by decide) ?_; clear HF; intro _ HF
    refine sl_op HF rfl rfl (by decide) ?_; intro K hK; have e57 := HF.see 57 rfl; have e59 := HF.see 59 rfl; go_wp2_with fail; clear e57 e59 HF; intro _ HF
    refine sl_move HF rfl rfl (.inl rfl) (by decide) rfl ?_; clear HF; intro _ HF
    refine sl_want HF rfl rfl rfl rfl (by decide) ?_; intro K hK; have e1 := HF.see 1 rfl; go_wp2_with fail; clear e1 HF; intro _ HF
    refine sl_want HF rfl rfl rfl rfl (by decide) ?_; intro K hK; have e62 := HF.see 62 rfl; go_wp2_with fail; clear e62 HF; intro _ HF
    refine sl_want HF rfl rfl rfl rfl (by decide) ?_; intro K hK; have e63 := HF.see 63 rfl; go_wp2_with fail; clear e63 HF; intro _ HF
    refine sl_want HF rfl rfl rfl rfl (by decide) ?_; intro K hK; have e64 := HF.see 64 rfl; go_wp2_with fail; clear e64 HF; intro _ HF
    refine sl_want HF rfl rfl rfl rfl (by decide) ?_; intro K hK; have e65 := HF.see 65 rfl; go_wp2_with fail; clear e65 HF; intro _ HF
    refine sl_want HF rfl rfl rfl rfl (by decide) ?_; intro K hK; have e3 := HF.see 3 rfl; go_wp2_with fail; clear e3 HF; intro _ HF
    refine sl_want HF rfl rfl rfl rfl (by decide) ?_; intro K hK; have e67 := HF.see 67 rfl; go_wp2_with fail; clear e67 HF; intro _ HF
    refine sl_want HF rfl rfl rfl rfl (by decide) ?_; intro K hK; have e68 := HF.see 68 rfl; go_wp2_with fail; clear e68 HF; intro _ HF
    refine sl_want HF rfl rfl rfl rfl (by decide) ?_; intro K hK; have e66 := HF.see 66 rfl; have e69 := HF.see 69 rfl; go_wp2_with fail; clear e66 e69 HF; intro _ HF
    refine sl_op HF rfl rfl (by decide) ?_; intro K hK; have e61 := HF.see 61 rfl; have e70 := HF.see 70 rfl; go_wp2_with fail; clear e61 e70 HF; intro _ HF
    refine sl_nil (wp_cond_false (HF.at 71 rfl) (wp_skip (sl_then ?_)))
    have HF2 := HF.keep [1, 2, 3]
    simp only [pick, look] at HF2
    exact HRE.out _ HF2
end Go.Proofs.YtefloadjolpgbaaDoor

namespace Go.Proofs.YtefloadjolpgbaaDoor
open Go.RowKit

theorem KF.top {w : World} {c : CodeT} {cs : List Value} (h : CodeC w c cs) (ht : TxtP c) : ∃ v, cs.toArray = codeArr c v ∧ KF w c v [] [] none 0 0 := by
  obtain ⟨v, hv, hf⟩ := h.view
  exact ⟨v, hv, hf, by rw [← hv]; simpa using h, AroF.empty w, Nat.zero_le _, ht.lits⟩

set_option maxHeartbeats 1600000 in
set_option maxRecDepth 100000 in
theorem codeRight_any {c : CodeT} {cs : List Value} (w : World) (h : CodeC w c cs) (hp : PreP c []) (ht : TxtP c) (hb : (∃ f, Fits c.ins f) → ∀ b ∈ c.blocks, RightP b ([] ++ [c])) :
    Calls Tryd.prog 12 #[.agg cs.toArray] w fun e w' => ∃ r, e = .returned (.bool r) ∧ (r = true ↔ ∃ f, Fits c.ins f) ∧ Mod Nil w w' := by
  obtain ⟨v, hv, hk⟩ := KF.top h ht
  rw [hv]
  have hm1 := (Mod.refl Nil w).alloc (.cells (codeArr c v) 26)
  have hb1 : Blk (w.alloc (.cells (codeArr c v) 26)) w.heap.size 26 (codeArr c v) := Blk.new _ _ _
  have HR := Lib.hid (cRight_any _ c (Nat.le_refl _) _ (hk.keep hm1) hp ht hb)
  obtain ⟨k0, k1, k2, k3, k4, k5⟩ := code_boxed hb1
  have HM := Lib.hid hm1
  clear hb1 hm1 hk hp ht hb hv h
  unfold kArr at HR
  unfold codeArr at *
  go_enter Tryd.func12, Tryd.ntmps12
  go_wp2_with fail
  refine HR.out.mono ?_
  rintro e w2 ⟨r, rfl, hr, hm⟩
  have HM2 := Lib.hid (HM.out.trans hm)
  have HRR := Lib.hid hr
  clear hm hr
  go_wp2_with fail
  go_ret
  exact ⟨r, rfl, HRR.out, HM2.out⟩

set_option maxHeartbeats 1600000 in
set_option maxRecDepth 100000 in
theorem codeHeights_any {c : CodeT} {cs : List Value} (w : World) (h : CodeC w c cs) (hp : RightP c []) (ht : TxtP c) :
    Calls Tryd.prog 8 #[.agg cs.toArray] w fun e w' => ∃ g o, e = .returned (.slice (some ⟨g, 0, none⟩) c.ins.length c.ins.length) ∧ Blk w' g 3 (o.map iv).toArray ∧ o.length = c.ins.length ∧ Fits c.ins (seen o) ∧ Mod Nil w w' := by
  obtain ⟨v, hv, hk⟩ := KF.top h ht
  have hm1 := (Mod.refl Nil w).alloc (.cells (codeArr c v) 26)
  have hb1 : Blk (w.alloc (.cells (codeArr c v) 26)) w.heap.size 26 (codeArr c v) := Blk.new _ _ _
  have hR := codeRight_any _ (h.keep hm1) hp.pre ht (fun _ => hp.blk)
  rw [hv] at hR ⊢
  have HR := Lib.hid hR
  have HM := Lib.hid hm1
  have HK := Lib.hid (hk.keep hm1)
  have HP := Lib.hid hp
  have HB := Lib.hid hb1
  obtain ⟨k0, k1, k2, k3, k4, k5⟩ := code_boxed hb1
  clear hb1 hm1 hk hp ht hv h hR
  unfold codeArr at *
  go_enter Tryd.func8, Tryd.ntmps8
  go_wp2_with fail
  refine HR.out.mono ?_
  rintro e w2 ⟨r, rfl, hr, hm⟩
  obtain rfl := hr.2 HP.out.fit
  have HM2 := Lib.hid (HM.out.trans hm)
  have hb2 := HB.out.keep hm id
  have hk2 := HK.out.keep hm
  have HHG := Lib.hid (heights_any c v none 0 0 w2 hk2.kf HP.out.pre.i1 HP.out.pre.i2 (fun x hx => ins_fit (HP.out.pre.may x hx)))
  unfold kArr at HHG
  clear k0 k1 k2 k3 k4 k5
  obtain ⟨k0, k1, k2, k3, k4, k5⟩ := code_boxed (c := c) (v := v) hb2
  clear hm hr hb2 hk2 HR HB HK
  go_wp2_with fail
  refine HHG.out.mono ?_
  rintro e w3 ⟨hm3, hres⟩
  have HM3 := Lib.hid (HM2.out.trans hm3)
  clear hm3 k0 k1 k2 k3 k4 k5
  rcases hres with ⟨g, o, mst, rfl, _, hbo, hlo, hfit, _⟩ | ⟨rfl, hnf⟩
  · have HX := Lib.hid (show _ ∧ _ ∧ _ from ⟨hbo, hlo, hfit⟩)
    clear hbo hlo hfit
    go_wp2_with fail
    go_ret
    exact ⟨g, o, rfl, HX.out.1, HX.out.2.1, HX.out.2.2, HM3.out⟩
  · exact absurd HP.out.fit hnf

set_option maxHeartbeats 1600000 in
set_option maxRecDepth 100000 in
theorem codeMost_any {c : CodeT} {cs : List Value} (w : World) (h : CodeC w c cs) (hp : RightP c []) (ht : TxtP c) :
    Calls Tryd.prog 9 #[.agg cs.toArray] w fun e w' => ∃ o most, e = .returned (.int .i64 most) ∧ Fits c.ins (seen o) ∧ MostIs c.ins o most ∧ Mod Nil w w' := by
  obtain ⟨v, hv, hk⟩ := KF.top h ht
  have hm1 := (Mod.refl Nil w).alloc (.cells (codeArr c v) 26)
  have hb1 : Blk (w.alloc (.cells (codeArr c v) 26)) w.heap.size 26 (codeArr c v) := Blk.new _ _ _
  have hR := codeRight_any _ (h.keep hm1) hp.pre ht (fun _ => hp.blk)
  rw [hv] at hR ⊢
  have HR := Lib.hid hR
  have HM := Lib.hid hm1
  have HK := Lib.hid (hk.keep hm1)
  have HP := Lib.hid hp
  have HB := Lib.hid hb1
  obtain ⟨k0, k1, k2, k3, k4, k5⟩ := code_boxed hb1
  clear hb1 hm1 hk hp ht hv h hR
  unfold codeArr at *
  go_enter Tryd.func9, Tryd.ntmps9
  go_wp2_with fail
  refine HR.out.mono ?_
  rintro e w2 ⟨r, rfl, hr, hm⟩
  obtain rfl := hr.2 HP.out.fit
  have HM2 := Lib.hid (HM.out.trans hm)
  have hb2 := HB.out.keep hm id
  have hk2 := HK.out.keep hm
  have HHG := Lib.hid (heights_any c v none 0 0 w2 hk2.kf HP.out.pre.i1 HP.out.pre.i2 (fun x hx => ins_fit (HP.out.pre.may x hx)))
  unfold kArr at HHG
  clear k0 k1 k2 k3 k4 k5
  obtain ⟨k0, k1, k2, k3, k4, k5⟩ := code_boxed (c := c) (v := v) hb2
  clear hm hr hb2 hk2 HR HB HK
  go_wp2_with fail
  refine HHG.out.mono ?_
  rintro e w3 ⟨hm3, hres⟩
  have HM3 := Lib.hid (HM2.out.trans hm3)
  clear hm3 k0 k1 k2 k3 k4 k5
  rcases hres with ⟨g, o, mst, rfl, _, hbo, hlo, hfit, hmo⟩ | ⟨rfl, hnf⟩
  · have HX := Lib.hid (show _ ∧ _ from ⟨hfit, hmo⟩)
    clear hbo hlo hfit hmo
    go_wp2_with fail
    go_ret
    exact ⟨o, mst, rfl, HX.out.1, HX.out.2, HM3.out⟩
  · exact absurd HP.out.fit hnf
end Go.Proofs.YtefloadjolpgbaaDoor

namespace Go.Proofs.YtefloadjolpgbaaDoor
open Go.RowKit

def awkA : CodeT := .mk 0 0 [] [⟨3, 0, 0⟩, ⟨15, 0, 0⟩] [] [65]
def awkB : CodeT := .mk 0 0 [] [⟨14, 0, 0⟩] [] [65]
theorem awkA_pre : PreP awkA [] := by
  refine ⟨by decide, by decide, by decide, by decide, rfl, by decide, by decide, by decide, by decide, fun _ => by kernel_rfl, fun h => absurd rfl h, ?_⟩
  intro x hx
  simp only [awkA, CodeT.ins, List.mem_cons, List.not_mem_nil, or_false] at hx
  rcases hx with rfl | rfl <;> kernel_rfl
theorem awkB_pre : PreP awkB [] := by
  refine ⟨by decide, by decide, by decide, by decide, rfl, by decide, by decide, by decide, by decide, fun _ => by kernel_rfl, fun h => absurd rfl h, ?_⟩
  intro x hx
  simp only [awkB, CodeT.ins, List.mem_cons, List.not_mem_nil, or_false] at hx
  rcases hx with rfl <;> kernel_rfl
theorem awkA_txt : TxtP awkA := .mk _ (fun l hl => by cases hl) (by decide) (fun b hb => by cases hb)
theorem awkB_txt : TxtP awkB := .mk _ (fun l hl => by cases hl) (by decide) (fun b hb => by cases hb)
theorem awkA_fit : Fits awkA.ins (fun i => if i = 0 then some 0 else if i = 1 then some 1 else none) := by
  refine ⟨rfl, fun i h hi => ?_⟩
  by_cases h0 : i = 0
  · subst h0
    cases hi
    exact ⟨⟨3, 0, 0⟩, rfl, by decide, by decide, fun t ht => by
      have : t = 1 := by simpa [goesL] using ht
      subst this
      decide⟩
  · by_cases h1 : i = 1
    · subst h1
      cases hi
      exact ⟨⟨15, 0, 0⟩, rfl, by decide, by decide, fun t ht => by simp [goesL] at ht⟩
    · simp [h0, h1] at hi
theorem awkA_right : RightP awkA [] := .mk _ _ awkA_pre ⟨_, awkA_fit⟩ (fun b hb => by cases hb)
theorem awkB_not : ¬ ∃ f, Fits awkB.ins f := by
  rintro ⟨f, hf⟩
  obtain ⟨x, hx, h1, _⟩ := hf.at_ 0 0 hf.zero
  cases hx
  revert h1
  decide
theorem awkA_most {o : List Int} {m : Int} (hf : Fits awkA.ins (seen o)) (hm : MostIs awkA.ins o m) : m = 1 := by
  obtain ⟨x, hx, h1, h2, h3⟩ := hf.at_ 0 0 hf.zero
  cases hx
  have h4 := (hm.ge 0 0 ⟨3, 0, 0⟩ hf.zero rfl).2
  have h5 : insNext ⟨3, 0, 0⟩ 0 = 1 := by decide
  rw [h5] at h4
  have h6 := (h3 1 (by simp [goesL])).2
  rw [h5] at h6
  rcases hm.m1 with h | ⟨i, h, x, hs, hx, h7⟩
  · omega
  · have hi := (List.getElem?_eq_some_iff.1 hx).1
    have h8 : i < 2 := hi
    rcases Nat.lt_or_ge i 1 with h9 | h9
    · obtain rfl : i = 0 := by omega
      cases hx
      rw [hf.zero] at hs
      cases hs
      rw [h5] at h7
      omega
    · obtain rfl : i = 1 := by omega
      cases hx
      rw [show seen o 1 = some 1 from h6] at hs
      cases hs
      rw [show insNext ⟨15, 0, 0⟩ 1 = 0 by decide] at h7
      omega

theorem code_const {w : World} {g n : Nat} {ins : List InsT} (hn : ins.length = n) (h : Blk w g 33 (ins.flatMap insC).toArray) (hi : ∀ x ∈ ins, x.ok) (h2 : n ≤ 100) :
    CodeC w (.mk 0 0 [] ins [] [65]) [.int .i64 0, .int .i64 0, .slice none 0 0, .slice (some ⟨g, 0, none⟩) n n, .slice none 0 0, .string (str [65])] := by
  subst hn
  exact .mk 0 0 [] ins [] [65] none (some ⟨g, 0, none⟩) none 0 ins.length 0 [] ⟨by decide, by decide⟩ ⟨by decide, by decide⟩ (by decide) (fun x hx => by cases hx) hi (Nat.le_refl _) (Nat.zero_le _) (Nat.le_refl _) (by unfold maxLen; omega) (Nat.le_refl _) (Nat.zero_le _)
    (Rd.nil _ _ _) (by simpa using Rd.blk h) (Rd.nil _ _ _) rfl (fun r hr => by cases hr) (fun i b r hb => by cases hb)

noncomputable def awk15Body : Code := (Tryd.f5.body).getD .skip

set_option maxHeartbeats 1600000 in
set_option maxRecDepth 100000 in
theorem awake15_any (w : World) : Calls Tryd.prog 5 #[] w fun e w' => e = .returned (.bool true) ∧ Mod Nil w w' := by
  refine sl_enter (n := 22) (fn := Tryd.f5) (c := awk15Body) Tryd.func5 rfl rfl (by simp) fun ac HF => ?_
  conv => arg 2; whnf
  refine wp_seq (wp_region_lit ?_)
  refine sl_const HF rfl rfl (.inr rfl) (by decide) ?_; clear HF; intro _ HF
  refine sl_nil (wp_seq (wp_region_lit ?_))
  refine sl_op HF rfl rfl (by decide) ?_; intro K hK; go_wp2_with fail; clear HF; intro _ HF
  refine sl_op HF rfl rfl (by decide) ?_; intro K hK; go_wp2_with fail; clear HF; intro _ HF
  refine sl_op HF rfl rfl (by decide) ?_; intro K hK; have e3 := HF.see 3 rfl; have e4 := HF.see 4 rfl; go_wp2_with fail; clear e3 e4 HF; intro _ HF
  refine sl_op HF rfl rfl (by decide) ?_; intro K hK; have e5 := HF.see 5 rfl; go_wp2_with fail; clear e5 HF; intro _ HF
  refine sl_op HF rfl rfl (by decide) ?_; intro K hK; go_wp2_with fail; clear HF; intro _ HF
  refine sl_op0 HF rfl rfl ?_; intro K hK; have e1 := HF.see 1 rfl; have e6 := HF.see 6 rfl; go_wp2_with fail; clear e1 e6 HF; intro _ HF
  have hi1 : Blk (w.alloc (.cells #[.int .i64 3, .int .i64 0, .int .i64 0, .int .i64 15, .int .i64 0, .int .i64 0] 33)) w.heap.size 33 (awkA.ins.flatMap insC).toArray := Blk.new _ _ _
  have hm1 := (Mod.refl Nil w).alloc (.cells #[.int .i64 3, .int .i64 0, .int .i64 0, .int .i64 15, .int .i64 0, .int .i64 0] 33)
  have hs1 : (w.alloc (.cells #[.int .i64 3, .int .i64 0, .int .i64 0, .int .i64 15, .int .i64 0, .int .i64 0] 33)).heap.size = w.heap.size + 1 := by simp
  rw [← hs1] at HF
  generalize w.alloc (.cells #[.int .i64 3, .int .i64 0, .int .i64 0, .int .i64 15, .int .i64 0, .int .i64 0] 33) = w1 at hi1 hm1 HF ⊢
  generalize w.heap.size = gi at hi1 HF hs1 ⊢
  have hb2 : Blk (w1.alloc (.cells #[.int .i64 0, .int .i64 0, .slice none 0 0, .slice (some ⟨gi, 0, none⟩) 2 2, .slice none 0 0, .string ⟨#[65]⟩] 26)) w1.heap.size 26 #[.int .i64 0, .int .i64 0, .slice none 0 0, .slice (some ⟨gi, 0, none⟩) 2 2, .slice none 0 0, .string ⟨#[65]⟩] := Blk.new _ _ _
  have hmn := (Mod.refl Nil w1).alloc (.cells #[.int .i64 0, .int .i64 0, .slice none 0 0, .slice (some ⟨gi, 0, none⟩) 2 2, .slice none 0 0, .string ⟨#[65]⟩] 26)
  have hi2 := hi1.keep hmn id
  have hm2 := hm1.trans hmn
  generalize w1.alloc (.cells #[.int .i64 0, .int .i64 0, .slice none 0 0, .slice (some ⟨gi, 0, none⟩) 2 2, .slice none 0 0, .string ⟨#[65]⟩] 26) = w2 at hb2 hi2 hm2 ⊢
  generalize w1.heap.size = ga at hb2 HF
  have HI2 := Lib.hid hi2
  have HB2 := Lib.hid hb2
  have HM2 := Lib.hid hm2
  clear hi1 hm1 hs1 hmn hi2 hb2 hm2
  refine sl_nil (wp_seq (wp_region_lit ?_))
  refine sl_op HF rfl rfl (by decide) ?_; intro K hK; go_wp2_with fail; clear HF; intro _ HF
  refine sl_op HF rfl rfl (by decide) ?_; intro K hK; have e7 := HF.see 7 rfl; go_wp2_with fail; clear e7 HF; intro _ HF
  refine sl_op HF rfl rfl (by decide) ?_; intro K hK; have e8 := HF.see 8 rfl; go_wp2_with fail; clear e8 HF; intro _ HF
  refine sl_op HF rfl rfl (by decide) ?_; intro K hK; go_wp2_with fail; clear HF; intro _ HF
  refine sl_op0 HF rfl rfl ?_; intro K hK; have e2 := HF.see 2 rfl; have e9 := HF.see 9 rfl; go_wp2_with fail; clear e2 e9 HF; intro _ HF
  have hi3 : Blk (w2.alloc (.cells #[.int .i64 14, .int .i64 0, .int .i64 0] 33)) w2.heap.size 33 (awkB.ins.flatMap insC).toArray := Blk.new _ _ _
  have hm3 := (Mod.refl Nil w2).alloc (.cells #[.int .i64 14, .int .i64 0, .int .i64 0] 33)
  have hs3 : (w2.alloc (.cells #[.int .i64 14, .int .i64 0, .int .i64 0] 33)).heap.size = w2.heap.size + 1 := by simp
  rw [← hs3] at HF
  generalize w2.alloc (.cells #[.int .i64 14, .int .i64 0, .int .i64 0] 33) = w3 at hi3 hm3 HF ⊢
  generalize w2.heap.size = gj at hi3 HF hs3 ⊢
  have hb4 : Blk (w3.alloc (.cells #[.int .i64 0, .int .i64 0, .slice none 0 0, .slice (some ⟨gj, 0, none⟩) 1 1, .slice none 0 0, .string ⟨#[65]⟩] 26)) w3.heap.size 26 #[.int .i64 0, .int .i64 0, .slice none 0 0, .slice (some ⟨gj, 0, none⟩) 1 1, .slice none 0 0, .string ⟨#[65]⟩] := Blk.new _ _ _
  have hmk := (Mod.refl Nil w3).alloc (.cells #[.int .i64 0, .int .i64 0, .slice none 0 0, .slice (some ⟨gj, 0, none⟩) 1 1, .slice none 0 0, .string ⟨#[65]⟩] 26)
  have HJ4 := Lib.hid (hi3.keep hmk id)
  have HI4 := Lib.hid (HI2.out.keep (hm3.trans hmk) id)
  have HA4 := Lib.hid (HB2.out.keep (hm3.trans hmk) id)
  have HM4 := Lib.hid (HM2.out.trans (hm3.trans hmk))
  have HB4 := Lib.hid hb4
  generalize w3.alloc (.cells #[.int .i64 0, .int .i64 0, .slice none 0 0, .slice (some ⟨gj, 0, none⟩) 1 1, .slice none 0 0, .string ⟨#[65]⟩] 26) = w4 at HB4 HJ4 HI4 HA4 HM4 ⊢
  generalize w3.heap.size = gb at HB4 HF
  clear hi3 hm3 hs3 hb4 hmk HI2 HB2 HM2
  have hokA : ∀ x ∈ awkA.ins, x.ok := by
    intro x hx
    simp only [awkA, CodeT.ins, List.mem_cons, List.not_mem_nil, or_false] at hx
    rcases hx with rfl | rfl <;> exact ⟨⟨by decide, by decide⟩, ⟨by decide, by decide⟩, ⟨by decide, by decide⟩⟩
  have hokB : ∀ x ∈ awkB.ins, x.ok := by
    intro x hx
    simp only [awkB, CodeT.ins, List.mem_cons, List.not_mem_nil, or_false] at hx
    rcases hx with rfl
    exact ⟨⟨by decide, by decide⟩, ⟨by decide, by decide⟩, ⟨by decide, by decide⟩⟩
  have HCA := Lib.hid (code_const (n := 2) rfl HI4.out hokA (by decide))
  have HCB := Lib.hid (code_const (n := 1) rfl HJ4.out hokB (by decide))
  clear hokA hokB
  have HRA := Lib.hid (codeRight_any w4 HCA.out awkA_pre awkA_txt (fun _ b hb => by cases hb))
  obtain ⟨a0, a1, a2, a3, a4, a5⟩ := code_cells HA4.out
  refine sl_nil (wp_seq (wp_region_lit ?_))
  refine sl_op HF rfl rfl (by decide) ?_; intro K hK; have e1 := HF.see 1 rfl; go_wp2_with fail; clear e1 HF; intro _ HF
  refine sl_op HF rfl rfl (by decide) ?_; intro K hK; have e10 := HF.see 10 rfl; go_wp2_with fail
  refine HRA.out.mono ?_
  rintro e w5 ⟨r, rfl, hr, hm5⟩
  obtain rfl := hr.2 ⟨_, awkA_fit⟩
  have HM5 := Lib.hid (HM4.out.trans hm5)
  have HRB := Lib.hid (codeRight_any w5 (HCB.out.keep hm5) awkB_pre awkB_txt (fun _ b hb => by cases hb))
  have HCA5 := Lib.hid (HCA.out.keep hm5)
  have HA5 := Lib.hid (HA4.out.keep hm5 id)
  have hB5 := HB4.out.keep hm5 id
  clear a0 a1 a2 a3 a4 a5 hm5 hr HRA HM4 HCA HCB HA4 HB4
  go_wp2_with fail; clear e10 HF; intro _ HF
  obtain ⟨a0, a1, a2, a3, a4, a5⟩ := code_cells hB5
  refine sl_move HF rfl rfl (.inl rfl) (by decide) rfl ?_; clear HF; intro _ HF
  refine sl_want HF rfl rfl rfl rfl (by decide) ?_; intro K hK; have e2 := HF.see 2 rfl; go_wp2_with fail; clear e2 HF; intro _ HF
  refine sl_want HF rfl rfl rfl rfl (by decide) ?_; intro K hK; have e13 := HF.see 13 rfl; go_wp2_with fail
  refine HRB.out.mono ?_
  rintro e w6 ⟨r, rfl, hr, hm6⟩
  obtain rfl : r = false := by
    rcases r with _ | _
    · rfl
    · exact absurd (hr.1 rfl) awkB_not
  have HM6 := Lib.hid (HM5.out.trans hm6)
  have HMO := Lib.hid (codeMost_any w6 (HCA5.out.keep hm6) awkA_right awkA_txt)
  have hA6 := HA5.out.keep hm6 id
  clear a0 a1 a2 a3 a4 a5 hm6 hr HRB HM5 HCA5 HA5 hB5
  go_wp2_with fail; clear e13 HF; intro _ HF
  obtain ⟨a0, a1, a2, a3, a4, a5⟩ := code_cells hA6
  refine sl_want HF rfl rfl rfl rfl (by decide) ?_; intro K hK; have e14 := HF.see 14 rfl; go_wp2_with fail; clear e14 HF; intro _ HF
  refine sl_op HF rfl rfl (by decide) ?_; intro K hK; have e12 := HF.see 12 rfl; have e15 := HF.see 15 rfl; go_wp2_with fail; clear e12 e15 HF; intro _ HF
  refine sl_move HF rfl rfl (.inl rfl) (by decide) rfl ?_; clear HF; intro _ HF
  refine sl_want HF rfl rfl rfl rfl (by decide) ?_; intro K hK; have e1 := HF.see 1 rfl; go_wp2_with fail; clear e1 HF; intro _ HF
  refine sl_want HF rfl rfl rfl rfl (by decide) ?_; intro K hK; have e18 := HF.see 18 rfl; go_wp2_with fail
  refine HMO.out.mono ?_
  rintro e w7 ⟨o, mst, rfl, hf, hmo, hm7⟩
  obtain rfl := awkA_most hf hmo
  have HM7 := Lib.hid (HM6.out.trans hm7)
  clear a0 a1 a2 a3 a4 a5 hm7 hf hmo HMO hA6
  go_wp2_with fail; clear e18 HF; intro _ HF
  refine sl_want HF rfl rfl rfl rfl (by decide) ?_; intro K hK; have e19 := HF.see 19 rfl; go_wp2_with fail; clear e19 HF; intro _ HF
  refine sl_op HF rfl rfl (by decide) ?_; intro K hK; have e17 := HF.see 17 rfl; have e20 := HF.see 20 rfl; go_wp2_with fail; clear e17 e20 HF; intro _ HF
  refine sl_move HF rfl rfl (.inr rfl) (by decide) rfl ?_; clear HF; intro _ HF
  exact sl_nil (wp_ret (sl_ret1 HF rfl rfl ⟨rfl, HM7.out⟩))
end Go.Proofs.YtefloadjolpgbaaDoor

namespace Go.Proofs.YtefloadjolpgbaaDoor
open Go.RowKit

def codeZ : Array Value := #[.int .i64 0, .int .i64 0, .slice none 0 0, .slice none 0 0, .slice none 0 0, .string ⟨#[]⟩]
theorem code_load {w : World} {g : Nat} {cs : Array Value} (hb : Blk w g 26 cs) (hs : cs.size = 6) : (loadVar 26 ⟨g, 0, none⟩).run Tryd.prog w = .ok (.agg cs) w :=
  run_loadVar_row w g 26 26 cs (0, 0) _ hb Tryd.underlying26 rfl (by rw [hs]; kernel_rfl)
theorem code_facts {w : World} {g : Nat} (hb : Blk w g 26 codeZ) :
    w.cell? ⟨g, 0, none⟩ = some (.int .i64 0) ∧ w.cell? ⟨g, 1, none⟩ = some (.int .i64 0) ∧ w.cell? ⟨g, 2, none⟩ = some (.slice none 0 0) ∧ w.cell? ⟨g, 3, none⟩ = some (.slice none 0 0) ∧ w.cell? ⟨g, 4, none⟩ = some (.slice none 0 0) ∧ w.cell? ⟨g, 5, none⟩ = some (.string ⟨#[]⟩) ∧
      w.frozen? ⟨g, 0, none⟩ = false ∧ w.frozen? ⟨g, 1, none⟩ = false ∧ w.frozen? ⟨g, 2, none⟩ = false ∧ w.frozen? ⟨g, 3, none⟩ = false ∧ w.frozen? ⟨g, 4, none⟩ = false ∧ w.frozen? ⟨g, 5, none⟩ = false :=
  ⟨hb.cell 0, hb.cell 1, hb.cell 2, hb.cell 3, hb.cell 4, hb.cell 5, hb.frozen 0, hb.frozen 1, hb.frozen 2, hb.frozen 3, hb.frozen 4, hb.frozen 5⟩

/-- What frame answers. -/
inductive FrmVal (o : Option CodeT) : Value → Prop
  | yes (f : CodeT) (h : o = some f) (A2 A3 A4 : Option Addr) (n2 n3 n4 c2 c3 c4 : Nat) (s : ByteArray) : FrmVal o (.tuple #[.agg #[.int .i64 f.args, .int .i64 f.vars, .slice A2 n2 c2, .slice A3 n3 c3, .slice A4 n4 c4, .string s], .bool true])
  | no (h : o = none) : FrmVal o (.tuple #[.agg codeZ, .bool false])
def FrmRes (c : CodeT) (ar : List CodeT) (up : Int) (w : World) (e : Ending) (w' : World) : Prop := (∃ v, e = .returned v ∧ FrmVal (frmL ar c up) v) ∧ Mod Nil w w'

theorem frm_end {c : CodeT} {ar : List CodeT} {up : Int} {w w3 : World} {a : Act} {g : Nat} {cs : Array Value} {b : Bool} (hb : Blk w3 g 26 cs) (h6 : cs.size = 6) (hm : Mod Nil w w3) (hx : FrmVal (frmL ar c up) (.tuple #[.agg cs, .bool b]))
    (hp : a.tmps.getD 6 undef = .pointer (some ⟨g, 0, none⟩)) (h3 : a.tmps.getD 7 undef = .bool b) (hd : a.defers = []) :
    bodyPost Tryd.prog Tryd.f40 (fun e w' => FrmRes c ar up w e w') .ret a w3 := by
  refine bodyPost_ret (v := .tuple #[.agg cs, .bool b]) ?_ hd ⟨⟨_, rfl, hx⟩, hm⟩
  rw [results_cell_tmp rfl, hp]
  have := code_load hb h6
  simp [asAddr, Result.andThen, this, h3]

set_option maxHeartbeats 1600000 in
set_option maxRecDepth 100000 in
theorem rFrame_any {c : CodeT} {v : CodeV} {ar : List CodeT} {rows : List (List Value)} {A5 : Option Addr} {n5 c5 : Nat} (up : Int) (w : World) (hu : i64 up) (hA : AroF w ar rows A5 n5 c5) (hn : n5 ≤ 21) :
    Calls Tryd.prog 40 #[.agg (codeArr c v), .slice A5 n5 c5, .int .i64 up] w fun e w' => FrmRes c ar up w e w' := by
  have hbk : Blk (w.alloc (.cells (codeArr c v) 26)) w.heap.size 26 (codeArr c v) := Blk.new _ _ _
  have hm1 := (Mod.refl Nil w).alloc (.cells (codeArr c v) 26)
  have hs1 : (w.alloc (.cells (codeArr c v) 26)).heap.size = w.heap.size + 1 := by simp
  generalize hW : w.alloc (.cells (codeArr c v) 26) = W1 at hbk hm1 hs1
  have hb2 : Blk (W1.alloc (.cells codeZ 26)) W1.heap.size 26 codeZ := Blk.new _ _ _
  have hm2 := hm1.alloc (.cells codeZ 26)
  have hbk2 := hbk.keep ((Mod.refl Nil W1).alloc (.cells codeZ 26)) id
  rw [hs1] at hb2
  obtain ⟨c0, c1, c2, c3, c4, c5'⟩ := code_boxed hbk2
  obtain ⟨z0, z1, z2, z3, z4, z5, f0, f1, f2, f3, f4, f5⟩ := code_facts hb2
  have HB := Lib.hid hb2
  have HM := Lib.hid hm2
  have HA := Lib.hid hA
  have HA2 := Lib.hid (hA.keep hm2)
  have HS := Lib.hid hs1
  have HU := Lib.hid hu
  clear hbk hbk2 hb2 hm1 hm2 hA hu
  subst hW
  unfold codeArr codeZ at *
  have hc5 := HA.out.le
  have hc63 := HA.out.c63
  unfold maxLen at hc63
  rcases h0 : (up == 0) with _ | _
  · by_cases hneg : up < 0
    · have hq : decide (up < 0) = true := by simpa using hneg
      have HX := Lib.hid (show frmL ar c up = none by unfold frmL; rw [if_neg (by omega)])
      go_enter Tryd.func40, Tryd.ntmps40
      go_wp2_with fail
      try simp only [Exit.inBlock, Exit.then]
      refine frm_end (c := c) HB.out rfl HM.out (.no HX.out) ?_ ?_ ?_ <;> rfl
    · have hq : decide (up < 0) = false := by simpa using hneg
      by_cases hbig : (n5 : Int) < up
      · have hq2 : decide ((n5 : Int) < up) = true := by simpa using hbig
        have HX := Lib.hid (show frmL ar c up = none by unfold frmL; rw [if_neg (by have := HA.out.cnt; omega)])
        go_enter Tryd.func40, Tryd.ntmps40
        go_wp2_with fail
        try simp only [Exit.inBlock, Exit.then]
        refine frm_end (c := c) HB.out rfl HM.out (.no HX.out) ?_ ?_ ?_ <;> rfl
      · have hq2 : decide ((n5 : Int) < up) = false := by simpa using hbig
        have hpos : up ≠ 0 := by simpa using h0
        obtain ⟨k, hk⟩ : ∃ k : Nat, (n5 : Int) - up = k := ⟨((n5 : Int) - up).toNat, by omega⟩
        have hkn : k < n5 := by omega
        obtain ⟨f, hf⟩ : ∃ f, ar[k]? = some f := ⟨_, List.getElem?_eq_getElem (by have := HA.out.cnt; omega)⟩
        have hX : frmL ar c up = some f := by
          unfold frmL
          rw [if_pos (by have := HA.out.cnt; omega), show ar.length - up.toNat = k by have := HA.out.cnt; omega, List.getElem?_append_left (by have := HA.out.cnt; omega), hf]
        obtain ⟨r, hr⟩ : ∃ r, rows[k]? = some r := ⟨_, List.getElem?_eq_getElem (by rw [HA2.out.rws.len, ← HA.out.cnt]; exact hkn)⟩
        obtain ⟨ad, u0, u1, u2, u3, u4, u5, hAd, hab, hre, e0, e1, e2, e3, e4, e5⟩ := rows_six HA2.out.rd HA2.out.rws.six hr
        have hfc := HA2.out.rws.code k f r hf hr
        rw [hre] at hfc
        subst hAd
        cases hfc
        rename_i fa fv fl fi fb fc B2 B3 B4 d2 d3 d4 rows' _ _ _ _ _ _ _ _ _ _ _ _ _ _ _ _ _
        have HX := Lib.hid hX
        have HBN := Lib.hid (show Blk ((w.alloc (.cells #[.int .i64 c.args, .int .i64 c.vars, .slice v.A2 c.lits.length v.c2, .slice v.A3 c.ins.length v.c3, .slice v.A4 c.blocks.length v.c4, .string (str c.cls)] 26)).alloc (.cells #[.int .i64 fa, .int .i64 fv, .slice B2 fl.length d2, .slice B3 fi.length d3, .slice B4 fb.length d4, .string (str fc)] 26)) (w.heap.size + 1) 26 #[.int .i64 fa, .int .i64 fv, .slice B2 fl.length d2, .slice B3 fi.length d3, .slice B4 fb.length d4, .string (str fc)] by rw [← HS.out]; exact Blk.new _ _ _)
        have HMN := Lib.hid (((Mod.refl Nil w).alloc (.cells #[.int .i64 c.args, .int .i64 c.vars, .slice v.A2 c.lits.length v.c2, .slice v.A3 c.ins.length v.c3, .slice v.A4 c.blocks.length v.c4, .string (str c.cls)] 26)).alloc (.cells #[.int .i64 fa, .int .i64 fv, .slice B2 fl.length d2, .slice B3 fi.length d3, .slice B4 fb.length d4, .string (str fc)] 26))
        clear hX hf hr hre
        have hu1 := HU.out.1
        have hu2 := HU.out.2
        go_enter Tryd.func40, Tryd.ntmps40
        go_wp2_with fail
        try simp only [Exit.inBlock, Exit.then]
        refine frm_end (c := c) HBN.out rfl HMN.out (.yes _ HX.out _ _ _ _ _ _ _ _ _ _) ?_ ?_ ?_ <;> rfl
  · have hup : up = 0 := by simpa using h0
    subst hup
    have hbn : Blk ((w.alloc (.cells #[.int .i64 c.args, .int .i64 c.vars, .slice v.A2 c.lits.length v.c2, .slice v.A3 c.ins.length v.c3, .slice v.A4 c.blocks.length v.c4, .string (str c.cls)] 26)).alloc (.cells #[.int .i64 c.args, .int .i64 c.vars, .slice v.A2 c.lits.length v.c2, .slice v.A3 c.ins.length v.c3, .slice v.A4 c.blocks.length v.c4, .string (str c.cls)] 26)) (w.heap.size + 1) 26 #[.int .i64 c.args, .int .i64 c.vars, .slice v.A2 c.lits.length v.c2, .slice v.A3 c.ins.length v.c3, .slice v.A4 c.blocks.length v.c4, .string (str c.cls)] := by rw [← HS.out]; exact Blk.new _ _ _
    have HBN := Lib.hid hbn
    have HMN := Lib.hid (((Mod.refl Nil w).alloc (.cells #[.int .i64 c.args, .int .i64 c.vars, .slice v.A2 c.lits.length v.c2, .slice v.A3 c.ins.length v.c3, .slice v.A4 c.blocks.length v.c4, .string (str c.cls)] 26)).alloc (.cells #[.int .i64 c.args, .int .i64 c.vars, .slice v.A2 c.lits.length v.c2, .slice v.A3 c.ins.length v.c3, .slice v.A4 c.blocks.length v.c4, .string (str c.cls)] 26))
    clear hbn
    have HX := Lib.hid (show frmL ar c 0 = some c by unfold frmL; simp)
    go_enter Tryd.func40, Tryd.ntmps40
    go_wp2_with fail
    try simp only [Exit.inBlock, Exit.then]
    refine frm_end (c := c) HBN.out rfl HMN.out (.yes c HX.out _ _ _ _ _ _ _ _ _ _) ?_ ?_ ?_ <;> rfl
end Go.Proofs.YtefloadjolpgbaaDoor
