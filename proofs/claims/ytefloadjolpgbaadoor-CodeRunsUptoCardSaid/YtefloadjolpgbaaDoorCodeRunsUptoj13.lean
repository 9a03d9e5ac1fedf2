/- Parts of the proof of CodeRunsUpto, joined: Var PhK. -/
import Derived.Test.YtefloadjolpgbaaDoorCodeRunsUptoj12
namespace Go.Proofs.YtefloadjolpgbaaDoor
open Go.RowKit

/-- The code so many blocks out. -/
def frmL (ar : List CodeT) (c : CodeT) (up : Int) : Option CodeT := if 0 ≤ up ∧ up ≤ ar.length then (ar ++ [c])[ar.length - up.toNat]? else none
def varL (ar : List CodeT) (c : CodeT) (up i : Int) (set : Bool) : Bool := match frmL ar c up with
  | none => false
  | some f => decide (0 ≤ i) && decide (i < f.vars) && (!set || decide (f.args ≤ i))

/-- What a region does that clones what is around and puts the code behind it. -/
structure PhA (W : World) (rows : List (List Value)) (cs : List Value) (n : Nat) (S : Nat → Bool) (h : Hist) (w : World) : Prop where
  mod : Mod Nil W w
  s0 : S 0 = true → S 2 = false → w.ownsRow W.heap.size 26 6 (h 0) n rows.flatten
  s1 : S 1 = true → ∃ B, h 1 = .slice (some ⟨B, 0, none⟩) 1 1 ∧ (S 2 = false → Blk w B 26 cs.toArray)
  s2 : S 2 = true → w.ownsRow W.heap.size 26 6 (h 2) (n + 1) (rows ++ [cs]).flatten
theorem PhA.init {W : World} {rows : List (List Value)} {cs : List Value} {n : Nat} (h : Hist) : PhA W rows cs n (fun _ => false) h W :=
  ⟨Mod.refl _ _, fun h => by (cases h), fun h => by (cases h), fun h => by (cases h)⟩

theorem PhA.w0 {W wx w' : World} {rows : List (List Value)} {cs : List Value} {n : Nat} {S : Nat → Bool} {h : Hist} {v : Value} (hP : PhA W rows cs n S h wx) (h2 : S 2 = false) (hm : Mod Nil wx w') (ho : w'.ownsRow wx.heap.size 26 6 v n rows.flatten) :
    PhA W rows cs n (setB S 0) (upd h 0 v) w' := by
  refine ⟨hP.mod.trans hm, fun _ _ => ?_, fun h1 => ?_, fun h3 => ?_⟩
  · rw [upd_same]
    refine ⟨ho.1, ho.2.imp id ?_⟩
    rintro ⟨g, cap, cur, h1, h2, h3⟩
    exact ⟨g, cap, cur, h1, Nat.le_trans hP.mod.size h2, h3⟩
  · rw [setB_ne _ (by decide)] at h1
    obtain ⟨B, e, hb⟩ := hP.s1 h1
    rw [upd_ne _ _ (by decide)]
    exact ⟨B, e, fun h3 => (hb h2).keep hm id⟩
  · rw [setB_ne _ (by decide), h2] at h3
    cases h3
theorem PhA.w1 {W wx : World} {rows : List (List Value)} {cs : List Value} {n : Nat} {S : Nat → Bool} {h : Hist} (hP : PhA W rows cs n S h wx) (h2 : S 2 = false) :
    PhA W rows cs n (setB S 1) (upd h 1 (.slice (some ⟨wx.heap.size, 0, none⟩) 1 1)) (wx.alloc (.cells cs.toArray 26)) := by
  refine ⟨hP.mod.alloc _, fun h1 _ => ?_, fun _ => ?_, fun h3 => ?_⟩
  · rw [setB_ne _ (by decide)] at h1
    rw [upd_ne _ _ (by decide)]
    exact (hP.s0 h1 h2).alloc _
  · rw [upd_same]
    exact ⟨_, rfl, fun _ => Blk.new _ _ _⟩
  · rw [setB_ne _ (by decide), h2] at h3
    cases h3
theorem PhA.w2 {P : Program} {W wx : World} {rows : List (List Value)} {cs : List Value} {n : Nat} {S : Nat → Bool} {h : Hist} (hP : PhA W rows cs n S h wx) (h0 : S 0 = true) (h1 : S 1 = true) (h2 : S 2 = false)
    {o : Oper} {a : Act} {K : Act → World → Prop} {Q : Exit → Act → World → Prop} {s x : Tmp} {t : TypeId} (ho : o.op = .call { callee := .builtin .append, args := #[.tmp s, .tmp x], argTypes := #[t, t] }) (hgd : o.guard = none)
    {i : TypeInfo} {z : Value} (ht : P.underlying t = some (.slice 26)) (hi : P.info? 26 = some i) (hz : i.zero = some z) (hsize : i.size = 6) (hby : i.bytes = 104) (hzs : z.cells.size = 6)
    (hs : (a.tmps[s]?).getD undef = h 0) (hx : (a.tmps[x]?).getD undef = h 1) (h6 : cs.length = 6) (hone : ∀ u ∈ cs, u.oneCell' = true) (hn : n ≤ 1000)
    (hk : ∀ v w', PhA W rows cs n (setB S 2) (upd h 2 v) w' → Mod (fun k => (h 0).ownBlock = some k) wx w' → K (a.put o.dst v) w') : o.wp P a wx K Q := by
  obtain ⟨B, e1, hb⟩ := hP.s1 h1
  have hown := hP.s0 h0 h2
  rw [e1] at hx
  refine opn_append wx hgd (.tmp s) (.tmp x) t ho W.heap.size 26 i z 6 104 ht hi hz hsize hby hzs (by decide) (h 0) n rows.flatten ((Act.eval_tmp _ _).trans hs) hown (some ⟨B, 0, none⟩) 1 1 cs ((Act.eval_tmp _ _).trans hx) (by omega)
    (fun _ => ⟨_, rfl, fun j u hu => ?_⟩) hone (by omega) (by unfold maxLen; omega) hP.mod.size fun A' c' w' h3 h4 h5 => hk _ _ ⟨?_, fun _ h => ?_, fun _ => ?_, fun _ => ?_⟩ h4
  · rw [show (⟨B, 0, none⟩ : Addr).add j = ⟨B, j, none⟩ by unfold Addr.add; split <;> simp_all, (hb h2).cell j]
    simpa using hu
  · exact hP.mod.trans' h4 (fun _ _ h => h) (fun k hk h => by have := (hown.lt k h).1; omega)
  · rw [setB_same] at h
    cases h
  · rw [upd_ne _ _ (by decide)]
    exact ⟨B, e1, fun h => by rw [setB_same] at h; cases h⟩
  · rw [upd_same, List.flatten_append]
    simpa using h3

noncomputable def varBody : Code := (Tryd.f54.body).getD .skip

set_option maxHeartbeats 1600000 in
set_option maxRecDepth 100000 in
theorem variable_any {c : CodeT} {v : CodeV} {ar : List CodeT} {rows : List (List Value)} {A5 : Option Addr} {n5 c5 : Nat} (up i : Int) (set : Bool) (w : World) (hu : i64 up) (hc : ∀ w', Mod Nil w w' → CodeC w' c (codeArr c v).toList) (hA : AroF w ar rows A5 n5 c5) (hn : n5 ≤ 20) :
    Calls Tryd.prog 54 #[.agg (kArr c v A5 n5 c5), .int .i64 up, .int .i64 i, .bool set] w fun e w' => e = .returned (.bool (varL ar c up i set)) ∧ Mod Nil w w' := by
  have hbk : Blk (w.alloc (.cells (kArr c v A5 n5 c5) 41)) w.heap.size 41 (kArr c v A5 n5 c5) := Blk.new _ _ _
  have hm1 := (Mod.refl Nil w).alloc (.cells (kArr c v A5 n5 c5) 41)
  have HC := Lib.hid hc
  have HA := Lib.hid hA
  clear hc hA
  refine sl_enter (n := 53) (fn := Tryd.f54) (c := varBody) Tryd.func54 rfl rfl (by simp) fun ac HF => ?_
  conv => arg 2; whnf
  refine wp_seq (wp_region_lit ?_)
  refine sl_op HF rfl rfl (by decide) ?_; intro K hK; have e0 := HF.see 0 rfl; go_wp2_with fail; clear e0 HF; intro _ HF
  refine sl_const HF rfl rfl (.inr rfl) (by decide) ?_; clear HF; intro _ HF
  generalize w.alloc (.cells (kArr c v A5 n5 c5) 41) = w1 at hbk hm1 ⊢
  generalize w.heap.size = g at hbk HF
  have HBK := Lib.hid hbk
  have HM1 := Lib.hid hm1
  have HA1 := Lib.hid (HA.out.keep hm1)
  have HK := Lib.hid (fun w' (h : Mod Nil w1 w') => k_boxed (hbk.keep h id))
  clear hbk hm1
  refine sl_nil (wp_seq ?_)
  obtain ⟨W, hW⟩ : ∃ W, W = w1.drew := ⟨_, rfl⟩
  have HW := Lib.hid hW
  have HKW := Lib.hid (show ∀ w', Mod Nil W w' → _ from fun w' h => HK.out w' ((Mod.refl Nil w1).drew.trans (hW ▸ h)))
  have HAW := Lib.hid (show AroF W ar rows A5 n5 c5 from hW ▸ HA1.out.keep ((Mod.refl Nil w1).drew))
  clear hW
  obtain ⟨i0, hi, hz0, hz1, hz2⟩ := info_parts code_info
  have HI0 := Lib.hid hi
  apply sl_flow6 (N := 3) [some 11, some 12, some 13, some 14, some 15, some 16, some 17, some 9] [.quiet [] [0, 2], .quiet [] [0, 2], .writes 0 [] [2], .quiet [] [1, 2], .quiet [] [1, 2], .writes 1 [] [2], .writes 2 [0, 1] [], .quiet [0, 1, 2] []] (PhA W rows (codeArr c v).toList n5) [_, _, (fun h => h 0), _, _, (fun h => h 1), (fun h => h 2), _] HF
  case hm => kernel_rfl
  case hok => kernel_rfl
  case hfl => rfl
  case h0 => exact (fun h => HW.out ▸ PhA.init h)
  case hobs =>
    apply And.intro
    · apply obm_quiet
      case hg => rfl
      case hop =>
        intro ax wx h S hD hE hP hk K hK
        have e4 := hk.see 4 rfl rfl
        have n0 := hE 0 (by decide)
        have n2 := hE 2 (by decide)
        clear hk hD hE
        go_wp2_with fail
        all_goals first | exact hP | rfl
      case hst => exact fun h h' e => rfl
    apply And.intro
    · apply obm_quiet
      case hg => rfl
      case hop =>
        intro ax wx h S hD hE hP hk K hK
        have e11 := hk.see 11 rfl rfl
        have n0 := hE 0 (by decide)
        have n2 := hE 2 (by decide)
        clear hk hD hE
        obtain ⟨k0, k1, k2, k3, k4, k5, k6⟩ := HKW.out _ hP.mod
        go_wp2_with fail
        all_goals first | exact hP | rfl
      case hst => exact fun h h' e => rfl
    refine And.intro (obm_writes rfl ?op) ?_
    case op =>
      intro ax wx h S hD hE hS hP hk K hK
      have e12 := hk.see 12 rfl rfl
      have n2 := hE 2 (by decide)
      clear hk hD hE
      have HP := Lib.hid hP
      have HCL := Lib.hid (clone_any wx (HAW.out.keep hP.mod) (by omega))
      clear hP
      go_wp2_with fail
      refine HCL.out.mono ?_
      rintro e w' ⟨v', rfl, hm, hown⟩
      exact hK _ _ (HP.out.w0 n2 hm hown)
    apply And.intro
    · apply obm_quiet
      case hg => rfl
      case hop =>
        intro ax wx h S hD hE hP hk K hK
        have e4 := hk.see 4 rfl rfl
        have n1 := hE 1 (by decide)
        have n2 := hE 2 (by decide)
        clear hk hD hE
        go_wp2_with fail
        all_goals first | exact hP | rfl
      case hst => exact fun h h' e => rfl
    apply And.intro
    · apply obm_quiet
      case hg => rfl
      case hop =>
        intro ax wx h S hD hE hP hk K hK
        have e14 := hk.see 14 rfl rfl
        have n1 := hE 1 (by decide)
        have n2 := hE 2 (by decide)
        clear hk hD hE
        obtain ⟨k0, k1, k2, k3, k4, k5, k6⟩ := HKW.out _ hP.mod
        go_wp2_with fail
        all_goals first | exact hP | rfl
      case hst => exact fun h h' e => rfl
    refine And.intro (obm_writes rfl ?op) ?_
    case op =>
      intro ax wx h S hD hE hS hP hk K hK
      have e15 := hk.see 15 rfl rfl
      have n2 := hE 2 (by decide)
      clear hk hD hE
      dsimp only at e15
      have HP := Lib.hid hP
      clear hP
      go_wp2_with fail
      exact HP.out.w1 n2
    refine And.intro (obm_writes rfl ?op) ?_
    case op =>
      intro ax wx h S hD hE hS hP hk K hK
      have e13 := hk.see 13 rfl rfl
      have e16 := hk.see 16 rfl rfl
      try dsimp only at e13 e16
      have d0 := hD 0 (by decide)
      have d1 := hD 1 (by decide)
      clear hk hD hE
      exact hP.w2 d0 d1 hS rfl rfl Tryd.underlying24 hi hz0 hz1 hz2 rfl e13 e16 rfl (by intro u hu; simp only [codeArr, List.mem_cons, List.not_mem_nil, or_false] at hu; rcases hu with rfl | rfl | rfl | rfl | rfl | rfl <;> rfl) (by omega) (fun v w' h _ => hK v w' h)
    apply And.intro
    · apply obm_quiet
      case hg => rfl
      case hop =>
        intro ax wx h S hD hE hP hk K hK
        have e17 := hk.see 17 rfl rfl
        try dsimp only at e17
        have d0 := hD 0 (by decide)
        have d1 := hD 1 (by decide)
        have d2 := hD 2 (by decide)
        clear hk hD hE
        go_wp2_with fail
        all_goals first | exact hP | rfl
      case hst => exact fun h h' e => by first | rfl | simp only [e 0 (by decide)] | simp only [e 1 (by decide)] | simp only [e 2 (by decide)] | simp only [e 0 (by decide), e 1 (by decide), e 2 (by decide)]
    exact trivial
  intro w2 a2 h S hall hP HF
  have hmW : Mod Nil w1 w2 := (Mod.refl Nil w1).drew.trans (HW.out ▸ hP.mod)
  have hCw := HC.out w2 (HM1.out.trans hmW)
  have hrows : RowsC w2 (ar ++ [c]) (rows ++ [(codeArr c v).toList]) := (HAW.out.keep hP.mod).rws.snoc hCw rfl
  have hown := hP.s2 (hall 2 (by decide))
  have hnl : n5 + 1 = (ar ++ [c]).length := by rw [List.length_append, ← HA.out.cnt]; rfl
  rw [hnl] at hown
  obtain ⟨A9, c9, e2, hA9⟩ := AroF.of_own hown hrows
  rw [← hnl] at e2 hA9
  have HF2 := HF.keep [1, 2, 3, 9]
  simp only [pick, look, laid5, e2, argL] at HF2
  have HM2 := Lib.hid (HM1.out.trans hmW)
  have HA9 := Lib.hid hA9
  have HAN := Lib.hid HA.out.cnt
  clear HF hall hP hCw hrows hown hnl e2 hA9 hmW HKW HAW HW HI0 hi hz0 hz1 hz2 HK HA1 HBK HC HA HM1
  have HF := HF2
  clear HF2
  have hc9 := HA9.out.le
  by_cases h0 : up < 0
  · have hd0 : decide (up < 0) = true := by simpa using h0
    have HR := Lib.hid (show varL ar c up i set = false by unfold varL frmL; rw [if_neg (by omega)])
    refine wp_seq (wp_region_lit ?_)
    refine sl_move HF rfl rfl (.inl rfl) (by decide) rfl ?_; clear HF; intro _ HF
    refine sl_op HF rfl rfl (by decide) ?_; intro K hK; have e18 := HF.see 18 rfl; go_wp2_with fail; clear e18 HF; intro _ HF
    refine sl_op HF rfl rfl (by decide) ?_; intro K hK; have e19 := HF.see 19 rfl; go_wp2_with fail; clear e19 HF; intro _ HF
    refine sl_move HF rfl rfl (.inl rfl) (by decide) rfl ?_; clear HF; intro _ HF
    refine sl_op HF rfl rfl (by decide) ?_; intro K hK; have e20 := HF.see 20 rfl; have e21 := HF.see 21 rfl; go_wp2_with fail; clear e20 e21 HF; intro _ HF
    refine sl_move HF rfl rfl (.inr rfl) (by decide) rfl ?_; clear HF; intro _ HF
    refine sl_nil (wp_seq (wp_seq (wp_region_lit ?_)))
    refine sl_move HF rfl rfl (.inl rfl) (by decide) rfl ?_; clear HF; intro _ HF
    refine sl_op HF rfl rfl (by decide) ?_; intro K hK; have e23 := HF.see 23 rfl; go_wp2_with fail; clear e23 HF; intro _ HF
    refine sl_move HF rfl rfl (.inl rfl) (by decide) rfl ?_; clear HF; intro _ HF
    refine sl_skip HF rfl rfl rfl rfl (by decide) ?_; clear HF; intro _ HF
    refine sl_skip HF rfl rfl rfl rfl (by decide) ?_; clear HF; intro _ HF
    refine sl_op HF rfl rfl (by decide) ?_; intro K hK; have e25 := HF.see 25 rfl; have e27 := HF.see 27 rfl; go_wp2_with fail; clear e25 e27 HF; intro _ HF
    refine sl_move HF rfl rfl (.inl rfl) (by decide) rfl ?_; clear HF; intro _ HF
    refine sl_skip HF rfl rfl rfl rfl (by decide) ?_; clear HF; intro _ HF
    refine sl_skip HF rfl rfl rfl rfl (by decide) ?_; clear HF; intro _ HF
    refine sl_op HF rfl rfl (by decide) ?_; intro K hK; have e29 := HF.see 29 rfl; have e31 := HF.see 31 rfl; go_wp2_with fail; clear e29 e31 HF; intro _ HF
    refine sl_move HF rfl rfl (.inl rfl) (by decide) rfl ?_; clear HF; intro _ HF
    refine sl_skip HF rfl rfl rfl rfl (by decide) ?_; clear HF; intro _ HF
    refine sl_skip HF rfl rfl rfl rfl (by decide) ?_; clear HF; intro _ HF
    refine sl_skip HF rfl rfl rfl rfl (by decide) ?_; clear HF; intro _ HF
    refine sl_skip HF rfl rfl rfl rfl (by decide) ?_; clear HF; intro _ HF
    refine sl_skip HF rfl rfl rfl rfl (by decide) ?_; clear HF; intro _ HF
    refine sl_skip HF rfl rfl rfl rfl (by decide) ?_; clear HF; intro _ HF
    refine sl_skip HF rfl rfl rfl rfl (by decide) ?_; clear HF; intro _ HF
    refine sl_op HF rfl rfl (by decide) ?_; intro K hK; have e33 := HF.see 33 rfl; have e40 := HF.see 40 rfl; go_wp2_with fail; clear e33 e40 HF; intro _ HF
    refine sl_nil (wp_cond_true (HF.at 41 rfl) (wp_seq (wp_region_lit ?_)))
    refine sl_const HF rfl rfl (.inr rfl) (by decide) ?_; clear HF; intro _ HF
    refine sl_nil (wp_ret ?_)
    dsimp only [Exit.then]
    exact sl_ret1 HF rfl rfl ⟨ret_bool HR.out.symm, HM2.out⟩
  have hd0 : decide (up < 0) = false := by simpa using h0
  obtain ⟨hu0, hu1⟩ := hu
  by_cases h1 : (n5 : Int) - up < 0
  · have hd1 : decide ((n5 : Int) - up < 0) = true := by simpa using h1
    have HR := Lib.hid (show varL ar c up i set = false by unfold varL frmL; rw [if_neg (by have := HAN.out; omega)])
    refine wp_seq (wp_region_lit ?_)
    refine sl_move HF rfl rfl (.inl rfl) (by decide) rfl ?_; clear HF; intro _ HF
    refine sl_op HF rfl rfl (by decide) ?_; intro K hK; have e18 := HF.see 18 rfl; go_wp2_with fail; clear e18 HF; intro _ HF
    refine sl_op HF rfl rfl (by decide) ?_; intro K hK; have e19 := HF.see 19 rfl; go_wp2_with fail; clear e19 HF; intro _ HF
    refine sl_move HF rfl rfl (.inl rfl) (by decide) rfl ?_; clear HF; intro _ HF
    refine sl_op HF rfl rfl (by decide) ?_; intro K hK; have e20 := HF.see 20 rfl; have e21 := HF.see 21 rfl; go_wp2_with fail; clear e20 e21 HF; intro _ HF
    refine sl_move HF rfl rfl (.inr rfl) (by decide) rfl ?_; clear HF; intro _ HF
    refine sl_nil (wp_seq (wp_seq (wp_region_lit ?_)))
    refine sl_move HF rfl rfl (.inl rfl) (by decide) rfl ?_; clear HF; intro _ HF
    refine sl_op HF rfl rfl (by decide) ?_; intro K hK; have e23 := HF.see 23 rfl; go_wp2_with fail; clear e23 HF; intro _ HF
    refine sl_move HF rfl rfl (.inl rfl) (by decide) rfl ?_; clear HF; intro _ HF
    refine sl_want HF rfl rfl rfl rfl (by decide) ?_; intro K hK; have e10 := HF.see 10 rfl; go_wp2_with fail; clear e10 HF; intro _ HF
    refine sl_want HF rfl rfl rfl rfl (by decide) ?_; intro K hK; have e26 := HF.see 26 rfl; go_wp2_with fail; clear e26 HF; intro _ HF
    refine sl_op HF rfl rfl (by decide) ?_; intro K hK; have e25 := HF.see 25 rfl; have e27 := HF.see 27 rfl; go_wp2_with fail; clear e25 e27 HF; intro _ HF
    refine sl_move HF rfl rfl (.inl rfl) (by decide) rfl ?_; clear HF; intro _ HF
    refine sl_skip HF rfl rfl rfl rfl (by decide) ?_; clear HF; intro _ HF
    refine sl_skip HF rfl rfl rfl rfl (by decide) ?_; clear HF; intro _ HF
    refine sl_op HF rfl rfl (by decide) ?_; intro K hK; have e29 := HF.see 29 rfl; have e31 := HF.see 31 rfl; go_wp2_with fail; clear e29 e31 HF; intro _ HF
    refine sl_move HF rfl rfl (.inl rfl) (by decide) rfl ?_; clear HF; intro _ HF
    refine sl_skip HF rfl rfl rfl rfl (by decide) ?_; clear HF; intro _ HF
    refine sl_skip HF rfl rfl rfl rfl (by decide) ?_; clear HF; intro _ HF
    refine sl_skip HF rfl rfl rfl rfl (by decide) ?_; clear HF; intro _ HF
    refine sl_skip HF rfl rfl rfl rfl (by decide) ?_; clear HF; intro _ HF
    refine sl_skip HF rfl rfl rfl rfl (by decide) ?_; clear HF; intro _ HF
    refine sl_skip HF rfl rfl rfl rfl (by decide) ?_; clear HF; intro _ HF
    refine sl_skip HF rfl rfl rfl rfl (by decide) ?_; clear HF; intro _ HF
    refine sl_op HF rfl rfl (by decide) ?_; intro K hK; have e33 := HF.see 33 rfl; have e40 := HF.see 40 rfl; go_wp2_with fail; clear e33 e40 HF; intro _ HF
    refine sl_nil (wp_cond_true (HF.at 41 rfl) (wp_seq (wp_region_lit ?_)))
    refine sl_const HF rfl rfl (.inr rfl) (by decide) ?_; clear HF; intro _ HF
    refine sl_nil (wp_ret ?_)
    dsimp only [Exit.then]
    exact sl_ret1 HF rfl rfl ⟨ret_bool HR.out.symm, HM2.out⟩
  have hd1 : decide ((n5 : Int) - up < 0) = false := by simpa using h1
  by_cases h2 : i < 0
  · have hd2 : decide (i < 0) = true := by simpa using h2
    have HR := Lib.hid (show varL ar c up i set = false by
      unfold varL
      rcases frmL ar c up with _ | f
      · rfl
      · rw [decide_eq_false (show ¬ (0 ≤ i) by omega)]; rfl)
    refine wp_seq (wp_region_lit ?_)
    refine sl_move HF rfl rfl (.inl rfl) (by decide) rfl ?_; clear HF; intro _ HF
    refine sl_op HF rfl rfl (by decide) ?_; intro K hK; have e18 := HF.see 18 rfl; go_wp2_with fail; clear e18 HF; intro _ HF
    refine sl_op HF rfl rfl (by decide) ?_; intro K hK; have e19 := HF.see 19 rfl; go_wp2_with fail; clear e19 HF; intro _ HF
    refine sl_move HF rfl rfl (.inl rfl) (by decide) rfl ?_; clear HF; intro _ HF
    refine sl_op HF rfl rfl (by decide) ?_; intro K hK; have e20 := HF.see 20 rfl; have e21 := HF.see 21 rfl; go_wp2_with fail; clear e20 e21 HF; intro _ HF
    refine sl_move HF rfl rfl (.inr rfl) (by decide) rfl ?_; clear HF; intro _ HF
    refine sl_nil (wp_seq (wp_seq (wp_region_lit ?_)))
    refine sl_move HF rfl rfl (.inl rfl) (by decide) rfl ?_; clear HF; intro _ HF
    refine sl_op HF rfl rfl (by decide) ?_; intro K hK; have e23 := HF.see 23 rfl; go_wp2_with fail; clear e23 HF; intro _ HF
    refine sl_move HF rfl rfl (.inl rfl) (by decide) rfl ?_; clear HF; intro _ HF
    refine sl_want HF rfl rfl rfl rfl (by decide) ?_; intro K hK; have e10 := HF.see 10 rfl; go_wp2_with fail; clear e10 HF; intro _ HF
    refine sl_want HF rfl rfl rfl rfl (by decide) ?_; intro K hK; have e26 := HF.see 26 rfl; go_wp2_with fail; clear e26 HF; intro _ HF
    refine sl_op HF rfl rfl (by decide) ?_; intro K hK; have e25 := HF.see 25 rfl; have e27 := HF.see 27 rfl; go_wp2_with fail; clear e25 e27 HF; intro _ HF
    refine sl_move HF rfl rfl (.inl rfl) (by decide) rfl ?_; clear HF; intro _ HF
    refine sl_want HF rfl rfl rfl rfl (by decide) ?_; intro K hK; have e2 := HF.see 2 rfl; go_wp2_with fail; clear e2 HF; intro _ HF
    refine sl_want HF rfl rfl rfl rfl (by decide) ?_; intro K hK; have e30 := HF.see 30 rfl; go_wp2_with fail; clear e30 HF; intro _ HF
    refine sl_op HF rfl rfl (by decide) ?_; intro K hK; have e29 := HF.see 29 rfl; have e31 := HF.see 31 rfl; go_wp2_with fail; clear e29 e31 HF; intro _ HF
    refine sl_move HF rfl rfl (.inl rfl) (by decide) rfl ?_; clear HF; intro _ HF
    refine sl_skip HF rfl rfl rfl rfl (by decide) ?_; clear HF; intro _ HF
    refine sl_skip HF rfl rfl rfl rfl (by decide) ?_; clear HF; intro _ HF
    refine sl_skip HF rfl rfl rfl rfl (by decide) ?_; clear HF; intro _ HF
    refine sl_skip HF rfl rfl rfl rfl (by decide) ?_; clear HF; intro _ HF
    refine sl_skip HF rfl rfl rfl rfl (by decide) ?_; clear HF; intro _ HF
    refine sl_skip HF rfl rfl rfl rfl (by decide) ?_; clear HF; intro _ HF
    refine sl_skip HF rfl rfl rfl rfl (by decide) ?_; clear HF; intro _ HF
    refine sl_op HF rfl rfl (by decide) ?_; intro K hK; have e33 := HF.see 33 rfl; have e40 := HF.see 40 rfl; go_wp2_with fail; clear e33 e40 HF; intro _ HF
    refine sl_nil (wp_cond_true (HF.at 41 rfl) (wp_seq (wp_region_lit ?_)))
    refine sl_const HF rfl rfl (.inr rfl) (by decide) ?_; clear HF; intro _ HF
    refine sl_nil (wp_ret ?_)
    dsimp only [Exit.then]
    exact sl_ret1 HF rfl rfl ⟨ret_bool HR.out.symm, HM2.out⟩
  have hd2 : decide (i < 0) = false := by simpa using h2
  obtain ⟨k, hk⟩ : ∃ k : Nat, (n5 : Int) - up = k := ⟨((n5 : Int) - up).toNat, by omega⟩
  have hkn : k < n5 + 1 := by omega
  obtain ⟨f, hf⟩ : ∃ f, (ar ++ [c])[k]? = some f := ⟨_, List.getElem?_eq_getElem (by have := HAN.out; simp; omega)⟩
  have HV := Lib.hid (show varL ar c up i set = (decide (i < f.vars) && (!set || decide (f.args ≤ i))) by
    unfold varL frmL
    rw [if_pos (by have := HAN.out; omega), show ar.length - up.toNat = k by have := HAN.out; omega, hf]
    simp only
    rw [decide_eq_true (show 0 ≤ i by omega), Bool.true_and])
  obtain ⟨r, hr⟩ : ∃ r, (rows ++ [(codeArr c v).toList])[k]? = some r := ⟨_, List.getElem?_eq_getElem (by rw [HA9.out.rws.len, List.length_append, ← HAN.out]; exact hkn)⟩
  obtain ⟨ad, u0, u1, u2, u3, u4, u5, rfl, hab, hre, e0, e1, _⟩ := rows_six HA9.out.rd HA9.out.rws.six hr
  have hfc := HA9.out.rws.code k f r hf hr
  rw [hre] at hfc
  obtain ⟨fa, fv, fl, fi, fb, fc⟩ := f
  have hu : u0 = .int .i64 fa ∧ u1 = .int .i64 fv := by cases hfc; exact ⟨rfl, rfl⟩
  obtain ⟨rfl, rfl⟩ := hu
  replace HV := Lib.hid (show varL ar c up i set = (decide (i < fv) && (!set || decide (fa ≤ i))) from HV.out)
  clear hf hr hre hfc HA9
  rw [hk] at hd1 h1
  by_cases h3 : i < fv
  · have hd3 : decide (fv ≤ i) = false := by simp; omega
    have hd3' : decide (i < fv) = true := by simpa using h3
    refine wp_seq (wp_region_lit ?_)
    refine sl_move HF rfl rfl (.inl rfl) (by decide) rfl ?_; clear HF; intro _ HF
    refine sl_op HF rfl rfl (by decide) ?_; intro K hK; have e18 := HF.see 18 rfl; go_wp2_with fail; clear e18 HF; intro _ HF
    refine sl_op HF rfl rfl (by decide) ?_; intro K hK; have e19 := HF.see 19 rfl; go_wp2_with fail; clear e19 HF; intro _ HF
    refine sl_move HF rfl rfl (.inl rfl) (by decide) rfl ?_; clear HF; intro _ HF
    refine sl_op HF rfl rfl (by decide) ?_; intro K hK; have e20 := HF.see 20 rfl; have e21 := HF.see 21 rfl; go_wp2_with fail; clear e20 e21 HF; intro _ HF
    refine sl_move HF rfl rfl (.inr rfl) (by decide) rfl ?_; clear HF; intro _ HF
    refine sl_nil (wp_seq (wp_seq (wp_region_lit ?_)))
    refine sl_move HF rfl rfl (.inl rfl) (by decide) rfl ?_; clear HF; intro _ HF
    refine sl_op HF rfl rfl (by decide) ?_; intro K hK; have e23 := HF.see 23 rfl; go_wp2_with fail; clear e23 HF; intro _ HF
    refine sl_move HF rfl rfl (.inl rfl) (by decide) rfl ?_; clear HF; intro _ HF
    refine sl_want HF rfl rfl rfl rfl (by decide) ?_; intro K hK; have e10 := HF.see 10 rfl; go_wp2_with fail; clear e10 HF; intro _ HF
    refine sl_want HF rfl rfl rfl rfl (by decide) ?_; intro K hK; have e26 := HF.see 26 rfl; go_wp2_with fail; clear e26 HF; intro _ HF
    refine sl_op HF rfl rfl (by decide) ?_; intro K hK; have e25 := HF.see 25 rfl; have e27 := HF.see 27 rfl; go_wp2_with fail; clear e25 e27 HF; intro _ HF
    refine sl_move HF rfl rfl (.inl rfl) (by decide) rfl ?_; clear HF; intro _ HF
    refine sl_want HF rfl rfl rfl rfl (by decide) ?_; intro K hK; have e2 := HF.see 2 rfl; go_wp2_with fail; clear e2 HF; intro _ HF
    refine sl_want HF rfl rfl rfl rfl (by decide) ?_; intro K hK; have e30 := HF.see 30 rfl; go_wp2_with fail; clear e30 HF; intro _ HF
    refine sl_op HF rfl rfl (by decide) ?_; intro K hK; have e29 := HF.see 29 rfl; have e31 := HF.see 31 rfl; go_wp2_with fail; clear e29 e31 HF; intro _ HF
    refine sl_move HF rfl rfl (.inl rfl) (by decide) rfl ?_; clear HF; intro _ HF
    refine sl_want HF rfl rfl rfl rfl (by decide) ?_; intro K hK; have e2 := HF.see 2 rfl; go_wp2_with fail; clear e2 HF; intro _ HF
    refine sl_want HF rfl rfl rfl rfl (by decide) ?_; intro K hK; have e9 := HF.see 9 rfl; go_wp2_with fail; clear e9 HF; intro _ HF
    refine sl_want HF rfl rfl rfl rfl (by decide) ?_; intro K hK; have e10 := HF.see 10 rfl; go_wp2_with fail; clear e10 HF; intro _ HF
    refine sl_want HF rfl rfl rfl rfl (by decide) ?_; intro K hK; have e35 := HF.see 35 rfl; have e36 := HF.see 36 rfl; go_wp2_with fail; clear e35 e36 HF; intro _ HF
    refine sl_want HF rfl rfl rfl rfl (by decide) ?_; intro K hK; have e37 := HF.see 37 rfl; go_wp2_with fail; clear e37 HF; intro _ HF
    refine sl_want HF rfl rfl rfl rfl (by decide) ?_; intro K hK; have e38 := HF.see 38 rfl; go_wp2_with fail; clear e38 HF; intro _ HF
    refine sl_want HF rfl rfl rfl rfl (by decide) ?_; intro K hK; have e34 := HF.see 34 rfl; have e39 := HF.see 39 rfl; go_wp2_with fail; clear e34 e39 HF; intro _ HF
    refine sl_op HF rfl rfl (by decide) ?_; intro K hK; have e33 := HF.see 33 rfl; have e40 := HF.see 40 rfl; go_wp2_with fail; clear e33 e40 HF; intro _ HF
    refine sl_nil (wp_cond_false (HF.at 41 rfl) (wp_skip (sl_then (wp_seq (wp_region_lit ?_)))))
    rcases set with _ | _
    · have HR := Lib.hid (show varL ar c up i false = true by rw [HV.out]; simp [h3])
      refine sl_move HF rfl rfl (.inl rfl) (by decide) rfl ?_; clear HF; intro _ HF
      refine sl_op HF rfl rfl (by decide) ?_; intro K hK; have e42 := HF.see 42 rfl; go_wp2_with fail; clear e42 HF; intro _ HF
      refine sl_move HF rfl rfl (.inl rfl) (by decide) rfl ?_; clear HF; intro _ HF
      refine sl_skip HF rfl rfl rfl rfl (by decide) ?_; clear HF; intro _ HF
      refine sl_skip HF rfl rfl rfl rfl (by decide) ?_; clear HF; intro _ HF
      refine sl_skip HF rfl rfl rfl rfl (by decide) ?_; clear HF; intro _ HF
      refine sl_skip HF rfl rfl rfl rfl (by decide) ?_; clear HF; intro _ HF
      refine sl_skip HF rfl rfl rfl rfl (by decide) ?_; clear HF; intro _ HF
      refine sl_skip HF rfl rfl rfl rfl (by decide) ?_; clear HF; intro _ HF
      refine sl_skip HF rfl rfl rfl rfl (by decide) ?_; clear HF; intro _ HF
      refine sl_op HF rfl rfl (by decide) ?_; intro K hK; have e44 := HF.see 44 rfl; have e51 := HF.see 51 rfl; go_wp2_with fail; clear e44 e51 HF; intro _ HF
      refine sl_move HF rfl rfl (.inr rfl) (by decide) rfl ?_; clear HF; intro _ HF
      exact sl_nil (wp_ret (sl_ret1 HF rfl rfl ⟨ret_bool HR.out.symm, HM2.out⟩))
    · have HR := Lib.hid (show varL ar c up i true = decide (fa ≤ i) by
        rw [HV.out, hd3']
        rfl)
      refine sl_move HF rfl rfl (.inl rfl) (by decide) rfl ?_; clear HF; intro _ HF
      refine sl_op HF rfl rfl (by decide) ?_; intro K hK; have e42 := HF.see 42 rfl; go_wp2_with fail; clear e42 HF; intro _ HF
      refine sl_move HF rfl rfl (.inl rfl) (by decide) rfl ?_; clear HF; intro _ HF
      refine sl_want HF rfl rfl rfl rfl (by decide) ?_; intro K hK; have e2 := HF.see 2 rfl; go_wp2_with fail; clear e2 HF; intro _ HF
      refine sl_want HF rfl rfl rfl rfl (by decide) ?_; intro K hK; have e9 := HF.see 9 rfl; go_wp2_with fail; clear e9 HF; intro _ HF
      refine sl_want HF rfl rfl rfl rfl (by decide) ?_; intro K hK; have e10 := HF.see 10 rfl; go_wp2_with fail; clear e10 HF; intro _ HF
      refine sl_want HF rfl rfl rfl rfl (by decide) ?_; intro K hK; have e46 := HF.see 46 rfl; have e47 := HF.see 47 rfl; go_wp2_with fail; clear e46 e47 HF; intro _ HF
      refine sl_want HF rfl rfl rfl rfl (by decide) ?_; intro K hK; have e48 := HF.see 48 rfl; go_wp2_with fail; clear e48 HF; intro _ HF
      refine sl_want HF rfl rfl rfl rfl (by decide) ?_; intro K hK; have e49 := HF.see 49 rfl; go_wp2_with fail; clear e49 HF; intro _ HF
      refine sl_want HF rfl rfl rfl rfl (by decide) ?_; intro K hK; have e45 := HF.see 45 rfl; have e50 := HF.see 50 rfl; go_wp2_with fail; clear e45 e50 HF; intro _ HF
      refine sl_op HF rfl rfl (by decide) ?_; intro K hK; have e44 := HF.see 44 rfl; have e51 := HF.see 51 rfl; go_wp2_with fail; clear e44 e51 HF; intro _ HF
      refine sl_move HF rfl rfl (.inr rfl) (by decide) rfl ?_; clear HF; intro _ HF
      exact sl_nil (wp_ret (sl_ret1 HF rfl rfl ⟨ret_bool HR.out.symm, HM2.out⟩))
  · have hd3 : decide (fv ≤ i) = true := by simp; omega
    have hd3' : decide (i < fv) = false := by simpa using h3
    have HR := Lib.hid (show varL ar c up i set = false by rw [HV.out]; simp [h3])
    refine wp_seq (wp_region_lit ?_)
    refine sl_move HF rfl rfl (.inl rfl) (by decide) rfl ?_; clear HF; intro _ HF
    refine sl_op HF rfl rfl (by decide) ?_; intro K hK; have e18 := HF.see 18 rfl; go_wp2_with fail; clear e18 HF; intro _ HF
    refine sl_op HF rfl rfl (by decide) ?_; intro K hK; have e19 := HF.see 19 rfl; go_wp2_with fail; clear e19 HF; intro _ HF
    refine sl_move HF rfl rfl (.inl rfl) (by decide) rfl ?_; clear HF; intro _ HF
    refine sl_op HF rfl rfl (by decide) ?_; intro K hK; have e20 := HF.see 20 rfl; have e21 := HF.see 21 rfl; go_wp2_with fail; clear e20 e21 HF; intro _ HF
    refine sl_move HF rfl rfl (.inr rfl) (by decide) rfl ?_; clear HF; intro _ HF
    refine sl_nil (wp_seq (wp_seq (wp_region_lit ?_)))
    refine sl_move HF rfl rfl (.inl rfl) (by decide) rfl ?_; clear HF; intro _ HF
    refine sl_op HF rfl rfl (by decide) ?_; intro K hK; have e23 := HF.see 23 rfl; go_wp2_with fail; clear e23 HF; intro _ HF
    refine sl_move HF rfl rfl (.inl rfl) (by decide) rfl ?_; clear HF; intro _ HF
    refine sl_want HF rfl rfl rfl rfl (by decide) ?_; intro K hK; have e10 := HF.see 10 rfl; go_wp2_with fail; clear e10 HF; intro _ HF
    refine sl_want HF rfl rfl rfl rfl (by decide) ?_; intro K hK; have e26 := HF.see 26 rfl; go_wp2_with fail; clear e26 HF; intro _ HF
    refine sl_op HF rfl rfl (by decide) ?_; intro K hK; have e25 := HF.see 25 rfl; have e27 := HF.see 27 rfl; go_wp2_with fail; clear e25 e27 HF; intro _ HF
    refine sl_move HF rfl rfl (.inl rfl) (by decide) rfl ?_; clear HF; intro _ HF
    refine sl_want HF rfl rfl rfl rfl (by decide) ?_; intro K hK; have e2 := HF.see 2 rfl; go_wp2_with fail; clear e2 HF; intro _ HF
    refine sl_want HF rfl rfl rfl rfl (by decide) ?_; intro K hK; have e30 := HF.see 30 rfl; go_wp2_with fail; clear e30 HF; intro _ HF
    refine sl_op HF rfl rfl (by decide) ?_; intro K hK; have e29 := HF.see 29 rfl; have e31 := HF.see 31 rfl; go_wp2_with fail; clear e29 e31 HF; intro _ HF
    refine sl_move HF rfl rfl (.inl rfl) (by decide) rfl ?_; clear HF; intro _ HF
    refine sl_want HF rfl rfl rfl rfl (by decide) ?_; intro K hK; have e2 := HF.see 2 rfl; go_wp2_with fail; clear e2 HF; intro _ HF
    refine sl_want HF rfl rfl rfl rfl (by decide) ?_; intro K hK; have e9 := HF.see 9 rfl; go_wp2_with fail; clear e9 HF; intro _ HF
    refine sl_want HF rfl rfl rfl rfl (by decide) ?_; intro K hK; have e10 := HF.see 10 rfl; go_wp2_with fail; clear e10 HF; intro _ HF
    refine sl_want HF rfl rfl rfl rfl (by decide) ?_; intro K hK; have e35 := HF.see 35 rfl; have e36 := HF.see 36 rfl; go_wp2_with fail; clear e35 e36 HF; intro _ HF
    refine sl_want HF rfl rfl rfl rfl (by decide) ?_; intro K hK; have e37 := HF.see 37 rfl; go_wp2_with fail; clear e37 HF; intro _ HF
    refine sl_want HF rfl rfl rfl rfl (by decide) ?_; intro K hK; have e38 := HF.see 38 rfl; go_wp2_with fail; clear e38 HF; intro _ HF
    refine sl_want HF rfl rfl rfl rfl (by decide) ?_; intro K hK; have e34 := HF.see 34 rfl; have e39 := HF.see 39 rfl; go_wp2_with fail; clear e34 e39 HF; intro _ HF
    refine sl_op HF rfl rfl (by decide) ?_; intro K hK; have e33 := HF.see 33 rfl; have e40 := HF.see 40 rfl; go_wp2_with fail; clear e33 e40 HF; intro _ HF
    refine sl_nil (wp_cond_true (HF.at 41 rfl) (wp_seq (wp_region_lit ?_)))
    refine sl_const HF rfl rfl (.inr rfl) (by decide) ?_; clear HF; intro _ HF
    refine sl_nil (wp_ret ?_)
    dsimp only [Exit.then]
    exact sl_ret1 HF rfl rfl ⟨ret_bool HR.out.symm, HM2.out⟩
end Go.Proofs.YtefloadjolpgbaaDoor

namespace Go.Proofs.YtefloadjolpgbaaDoor
open Go.RowKit

structure PhK (W : World) (vs : Nat → Value) (S : Nat → Bool) (h : Hist) (w : World) : Prop where
  mod : Mod Nil W w
  val : ∀ m, S m = true → h m = vs m
theorem PhK.init {W : World} {vs : Nat → Value} (h : Hist) : PhK W vs (fun _ => false) h W := ⟨Mod.refl _ _, fun _ h => by cases h⟩
theorem PhK.step {W w w' : World} {vs : Nat → Value} {S : Nat → Bool} {h : Hist} (hP : PhK W vs S h w) {m : Nat} {v : Value} (hm : Mod Nil w w') (hv : v = vs m) : PhK W vs (setB S m) (upd h m v) w' := by
  refine ⟨hP.mod.trans hm, fun i hi => ?_⟩
  by_cases he : i = m
  · subst he
    rw [upd_same, hv]
  · rw [setB_ne _ he] at hi
    rw [upd_ne _ _ he]
    exact hP.val i hi
end Go.Proofs.YtefloadjolpgbaaDoor
