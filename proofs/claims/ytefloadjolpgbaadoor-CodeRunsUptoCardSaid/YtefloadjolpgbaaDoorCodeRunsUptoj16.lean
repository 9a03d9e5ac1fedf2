/- Parts of the proof of CodeRunsUpto, joined: Rmy. -/
import Derived.Test.YtefloadjolpgbaaDoorCodeRunsUptoj15
namespace Go.Proofs.YtefloadjolpgbaaDoor
open Go.RowKit

noncomputable def rmyBody : Code := (Tryd.f20.body).getD .skip

/-- What its answer says. -/
def RMay (c : CodeT) (ar : List CodeT) (x : InsT) (w : World) (e : Ending) (w' : World) : Prop := ∃ r, e = .returned (.bool r) ∧ (r = true → mayF c ar x = true) ∧ Mod Nil w w'

theorem litIs_get {c : CodeT} {i k : Int} (h : litIs c i k = true) : ∃ (j : Nat) (l : LitT), i = j ∧ c.lits[j]? = some l ∧ l.kind = k ∧ litGet c i = some l := by
  unfold litIs at h
  rw [Bool.and_eq_true] at h
  obtain ⟨h0, h1⟩ := h
  have h0' : 0 ≤ i := by simpa using h0
  rcases hl : c.lits[i.toNat]? with _ | l
  · rw [hl] at h1
    cases h1
  · rw [hl] at h1
    exact ⟨i.toNat, l, by omega, hl, by simpa using h1, by unfold litGet; rw [if_pos h0', hl]⟩
theorem may0 {c : CodeT} {ar : List CodeT} {a b k : Int} (h : litIs c a k = true) (hk : k ≠ 4) : mayF c ar ⟨0, a, b⟩ = true := by
  obtain ⟨j, l, _, _, h3, h4⟩ := litIs_get h
  rw [mayF_plain (by simp) (by simp)]
  simp [mayL, h4, h3, hk]

set_option maxHeartbeats 1600000 in
set_option maxRecDepth 100000 in
theorem rm_lit {Q : Exit → Act → World → Prop} {ac : Act} {w0 w : World} {c : CodeT} {v : CodeV} {ar : List CodeT} {rows : List (List Value)} {A5 : Option Addr} {n5 c5 g3 g5 : Nat} {o xa xb : Int}
    (HF : Sl 159 [(1, .slice A5 n5 c5), (3, .pointer (some ⟨g3, 0, none⟩)), (5, .pointer (some ⟨g5, 0, none⟩))] ac) (hk : KF w0 c v ar rows A5 n5 c5) (hm : Mod Nil w0 w) (hb : Blk w g3 26 (codeArr c v)) (hi : Blk w g5 33 #[.int .i64 o, .int .i64 xa, .int .i64 xb]) (hx : InsT.ok ⟨o, xa, xb⟩) (h0x : o = 0)
    (hQ : ∀ a' w' r, Sl 159 [(6, .bool r)] a' → (r = true → mayF c ar ⟨o, xa, xb⟩ = true) → Mod Nil w0 w' → Q .ret a' w') : (part [1, 0, 1, 0, 1, 0] rmyBody).wp Tryd.prog Q ac w := by
  have HK := Lib.hid hk
  have HM := Lib.hid hm
  have HQ := Lib.hid hQ
  have HB := Lib.hid hb
  have HI := Lib.hid hi
  have HX := Lib.hid hx
  obtain ⟨k0, k1, k2, k3, k4, k5⟩ := code_boxed hb
  have i0 := hi.cell 0
  have i1 := hi.cell 1
  have i2 := hi.cell 2
  simp only [List.getElem?_toArray, List.getElem?_cons_zero, List.getElem?_cons_succ] at i0 i1 i2
  clear hk hm hQ hb hi hx
  conv => arg 2; whnf
  refine wp_seq (wp_region_lit ?_)
  obtain ⟨b1, hb1⟩ : ∃ b, litIs c xa 1 = b := ⟨_, rfl⟩
  obtain ⟨b2, hb2⟩ : ∃ b, litIs c xa 2 = b := ⟨_, rfl⟩
  obtain ⟨b3, hb3⟩ : ∃ b, litIs c xa 3 = b := ⟨_, rfl⟩
  have HH := Lib.hid (And.intro hb1 (And.intro hb2 hb3))
  have HL := Lib.hid (rLit_any c v xa 1 _ (fun w' h => HK.out.kf w' (HM.out.trans h)))
  unfold codeArr at HL
  rw [hb1] at HL
  refine sl_op HF rfl rfl (by decide) ?_; intro K hK; have e3 := HF.see 3 rfl; go_wp2_with fail; clear e3 HF; intro _ HF
  refine sl_op HF rfl rfl (by decide) ?_; intro K hK; have e5 := HF.see 5 rfl; go_wp2_with fail; clear e5 HF; intro _ HF
  refine sl_op HF rfl rfl (by decide) ?_; intro K hK; have e14 := HF.see 14 rfl; go_wp2_with fail; clear e14 HF; intro _ HF
  refine sl_op HF rfl rfl (by decide) ?_; intro K hK; have e13 := HF.see 13 rfl; have e15 := HF.see 15 rfl; go_wp2_with fail
  refine HL.out.mono ?_
  rintro e w3 ⟨rfl, hm⟩
  have HM3 := Lib.hid (HM.out.trans hm)
  have HB' := Lib.hid (HB.out.keep hm id)
  have HI' := Lib.hid (HI.out.keep hm id)
  clear HB HI k0 k1 k2 k3 k4 k5 i0 i1 i2 HL
  have HB := HB'
  have HI := HI'
  clear HB' HI'
  obtain ⟨k0, k1, k2, k3, k4, k5⟩ := code_boxed HB.out
  have i0 := HI.out.cell 0
  have i1 := HI.out.cell 1
  have i2 := HI.out.cell 2
  simp only [List.getElem?_toArray, List.getElem?_cons_zero, List.getElem?_cons_succ] at i0 i1 i2
  clear hm
  go_wp2_with fail; clear e13 e15 HF; intro _ HF
  rcases b1 with _ | _
  · skip
    have HL := Lib.hid (rLit_any c v xa 2 _ (fun w' h => HK.out.kf w' (HM3.out.trans h)))
    unfold codeArr at HL
    rw [hb2] at HL
    refine sl_move HF rfl rfl (.inl rfl) (by decide) rfl ?_; clear HF; intro _ HF
    refine sl_want HF rfl rfl rfl rfl (by decide) ?_; intro K hK; have e3 := HF.see 3 rfl; go_wp2_with fail; clear e3 HF; intro _ HF
    refine sl_want HF rfl rfl rfl rfl (by decide) ?_; intro K hK; have e5 := HF.see 5 rfl; go_wp2_with fail; clear e5 HF; intro _ HF
    refine sl_want HF rfl rfl rfl rfl (by decide) ?_; intro K hK; have e19 := HF.see 19 rfl; go_wp2_with fail; clear e19 HF; intro _ HF
    refine sl_want HF rfl rfl rfl rfl (by decide) ?_; intro K hK; have e18 := HF.see 18 rfl; have e20 := HF.see 20 rfl; go_wp2_with fail
    refine HL.out.mono ?_
    rintro e w4 ⟨rfl, hm⟩
    have HM4 := Lib.hid (HM3.out.trans hm)
    have HB' := Lib.hid (HB.out.keep hm id)
    have HI' := Lib.hid (HI.out.keep hm id)
    clear HB HI k0 k1 k2 k3 k4 k5 i0 i1 i2 HL
    have HB := HB'
    have HI := HI'
    clear HB' HI'
    obtain ⟨k0, k1, k2, k3, k4, k5⟩ := code_boxed HB.out
    have i0 := HI.out.cell 0
    have i1 := HI.out.cell 1
    have i2 := HI.out.cell 2
    simp only [List.getElem?_toArray, List.getElem?_cons_zero, List.getElem?_cons_succ] at i0 i1 i2
    clear hm
    go_wp2_with fail; clear e18 e20 HF; intro _ HF
    rcases b2 with _ | _
    · skip
      have HL := Lib.hid (rLit_any c v xa 3 _ (fun w' h => HK.out.kf w' (HM4.out.trans h)))
      unfold codeArr at HL
      rw [hb3] at HL
      refine sl_op HF rfl rfl (by decide) ?_; intro K hK; have e17 := HF.see 17 rfl; have e21 := HF.see 21 rfl; go_wp2_with fail; clear e17 e21 HF; intro _ HF
      refine sl_move HF rfl rfl (.inl rfl) (by decide) rfl ?_; clear HF; intro _ HF
      refine sl_want HF rfl rfl rfl rfl (by decide) ?_; intro K hK; have e3 := HF.see 3 rfl; go_wp2_with fail; clear e3 HF; intro _ HF
      refine sl_want HF rfl rfl rfl rfl (by decide) ?_; intro K hK; have e5 := HF.see 5 rfl; go_wp2_with fail; clear e5 HF; intro _ HF
      refine sl_want HF rfl rfl rfl rfl (by decide) ?_; intro K hK; have e25 := HF.see 25 rfl; go_wp2_with fail; clear e25 HF; intro _ HF
      refine sl_want HF rfl rfl rfl rfl (by decide) ?_; intro K hK; have e24 := HF.see 24 rfl; have e26 := HF.see 26 rfl; go_wp2_with fail
      refine HL.out.mono ?_
      rintro e w5 ⟨rfl, hm⟩
      have HM5 := Lib.hid (HM4.out.trans hm)
      have HB' := Lib.hid (HB.out.keep hm id)
      have HI' := Lib.hid (HI.out.keep hm id)
      clear HB HI k0 k1 k2 k3 k4 k5 i0 i1 i2 HL
      have HB := HB'
      have HI := HI'
      clear HB' HI'
      obtain ⟨k0, k1, k2, k3, k4, k5⟩ := code_boxed HB.out
      have i0 := HI.out.cell 0
      have i1 := HI.out.cell 1
      have i2 := HI.out.cell 2
      simp only [List.getElem?_toArray, List.getElem?_cons_zero, List.getElem?_cons_succ] at i0 i1 i2
      clear hm
      go_wp2_with fail; clear e24 e26 HF; intro _ HF
      refine sl_op HF rfl rfl (by decide) ?_; intro K hK; have e23 := HF.see 23 rfl; have e27 := HF.see 27 rfl; go_wp2_with fail; clear e23 e27 HF; intro _ HF
      refine sl_move HF rfl rfl (.inr rfl) (by decide) rfl ?_; clear HF; intro _ HF
      subst h0x
      have HF2 := HF.keep [6]
      simp only [pick, look] at HF2
      exact sl_nil (wp_ret (HQ.out _ _ _ HF2 (fun h => may0 (k := 3) (HH.out.2.2.trans h) (by decide)) HM5.out))
    · skip
      refine sl_op HF rfl rfl (by decide) ?_; intro K hK; have e17 := HF.see 17 rfl; have e21 := HF.see 21 rfl; go_wp2_with fail; clear e17 e21 HF; intro _ HF
      refine sl_move HF rfl rfl (.inl rfl) (by decide) rfl ?_; clear HF; intro _ HF
      refine sl_skip HF rfl rfl rfl rfl (by decide) ?_; clear HF; intro _ HF
      refine sl_skip HF rfl rfl rfl rfl (by decide) ?_; clear HF; intro _ HF
      refine sl_skip HF rfl rfl rfl rfl (by decide) ?_; clear HF; intro _ HF
      refine sl_skip HF rfl rfl rfl rfl (by decide) ?_; clear HF; intro _ HF
      refine sl_op HF rfl rfl (by decide) ?_; intro K hK; have e23 := HF.see 23 rfl; have e27 := HF.see 27 rfl; go_wp2_with fail; clear e23 e27 HF; intro _ HF
      refine sl_move HF rfl rfl (.inr rfl) (by decide) rfl ?_; clear HF; intro _ HF
      subst h0x
      have HF2 := HF.keep [6]
      simp only [pick, look] at HF2
      exact sl_nil (wp_ret (HQ.out _ _ _ HF2 (fun _ => may0 HH.out.2.1 (by decide)) HM4.out))
  · skip
    refine sl_move HF rfl rfl (.inl rfl) (by decide) rfl ?_; clear HF; intro _ HF
    refine sl_skip HF rfl rfl rfl rfl (by decide) ?_; clear HF; intro _ HF
    refine sl_skip HF rfl rfl rfl rfl (by decide) ?_; clear HF; intro _ HF
    refine sl_skip HF rfl rfl rfl rfl (by decide) ?_; clear HF; intro _ HF
    refine sl_skip HF rfl rfl rfl rfl (by decide) ?_; clear HF; intro _ HF
    refine sl_op HF rfl rfl (by decide) ?_; intro K hK; have e17 := HF.see 17 rfl; have e21 := HF.see 21 rfl; go_wp2_with fail; clear e17 e21 HF; intro _ HF
    refine sl_move HF rfl rfl (.inl rfl) (by decide) rfl ?_; clear HF; intro _ HF
    refine sl_skip HF rfl rfl rfl rfl (by decide) ?_; clear HF; intro _ HF
    refine sl_skip HF rfl rfl rfl rfl (by decide) ?_; clear HF; intro _ HF
    refine sl_skip HF rfl rfl rfl rfl (by decide) ?_; clear HF; intro _ HF
    refine sl_skip HF rfl rfl rfl rfl (by decide) ?_; clear HF; intro _ HF
    refine sl_op HF rfl rfl (by decide) ?_; intro K hK; have e23 := HF.see 23 rfl; have e27 := HF.see 27 rfl; go_wp2_with fail; clear e23 e27 HF; intro _ HF
    refine sl_move HF rfl rfl (.inr rfl) (by decide) rfl ?_; clear HF; intro _ HF
    subst h0x
    have HF2 := HF.keep [6]
    simp only [pick, look] at HF2
    exact sl_nil (wp_ret (HQ.out _ _ _ HF2 (fun _ => may0 HH.out.1 (by decide)) HM3.out))

set_option maxHeartbeats 1600000 in
set_option maxRecDepth 100000 in
theorem rm_class {Q : Exit → Act → World → Prop} {ac : Act} {w0 w : World} {c : CodeT} {v : CodeV} {ar : List CodeT} {rows : List (List Value)} {A5 : Option Addr} {n5 c5 g3 g5 : Nat} {o xa xb : Int}
    (HF : Sl 159 [(1, .slice A5 n5 c5), (3, .pointer (some ⟨g3, 0, none⟩)), (5, .pointer (some ⟨g5, 0, none⟩))] ac) (hk : KF w0 c v ar rows A5 n5 c5) (hm : Mod Nil w0 w) (hb : Blk w g3 26 (codeArr c v)) (hi : Blk w g5 33 #[.int .i64 o, .int .i64 xa, .int .i64 xb]) (hx : InsT.ok ⟨o, xa, xb⟩) (h1x : o = 1)
    (hQ : ∀ a' w' r, Sl 159 [(6, .bool r)] a' → (r = true → mayF c ar ⟨o, xa, xb⟩ = true) → Mod Nil w0 w' → Q .ret a' w') : (part [1, 0, 1, 0, 1, 1, 1, 0] rmyBody).wp Tryd.prog Q ac w := by
  have HK := Lib.hid hk
  have HM := Lib.hid hm
  have HQ := Lib.hid hQ
  have HB := Lib.hid hb
  have HI := Lib.hid hi
  have HX := Lib.hid hx
  obtain ⟨k0, k1, k2, k3, k4, k5⟩ := code_boxed hb
  have i0 := hi.cell 0
  have i1 := hi.cell 1
  have i2 := hi.cell 2
  simp only [List.getElem?_toArray, List.getElem?_cons_zero, List.getElem?_cons_succ] at i0 i1 i2
  clear hk hm hQ hb hi hx
  conv => arg 2; whnf
  refine wp_seq (wp_region_lit ?_)
  obtain ⟨b1, hb1⟩ : ∃ b, litIs c xa 4 = b := ⟨_, rfl⟩
  have HH := Lib.hid hb1
  have HL := Lib.hid (rLit_any c v xa 4 _ (fun w' h => HK.out.kf w' (HM.out.trans h)))
  unfold codeArr at HL
  rw [hb1] at HL
  refine sl_op HF rfl rfl (by decide) ?_; intro K hK; have e3 := HF.see 3 rfl; go_wp2_with fail; clear e3 HF; intro _ HF
  refine sl_op HF rfl rfl (by decide) ?_; intro K hK; have e5 := HF.see 5 rfl; go_wp2_with fail; clear e5 HF; intro _ HF
  refine sl_op HF rfl rfl (by decide) ?_; intro K hK; have e32 := HF.see 32 rfl; go_wp2_with fail; clear e32 HF; intro _ HF
  refine sl_op HF rfl rfl (by decide) ?_; intro K hK; have e31 := HF.see 31 rfl; have e33 := HF.see 33 rfl; go_wp2_with fail
  refine HL.out.mono ?_
  rintro e w3 ⟨rfl, hm⟩
  have HM3 := Lib.hid (HM.out.trans hm)
  have HB' := Lib.hid (HB.out.keep hm id)
  have HI' := Lib.hid (HI.out.keep hm id)
  clear HB HI k0 k1 k2 k3 k4 k5 i0 i1 i2 HL
  have HB := HB'
  have HI := HI'
  clear HB' HI'
  obtain ⟨k0, k1, k2, k3, k4, k5⟩ := code_boxed HB.out
  have i0 := HI.out.cell 0
  have i1 := HI.out.cell 1
  have i2 := HI.out.cell 2
  simp only [List.getElem?_toArray, List.getElem?_cons_zero, List.getElem?_cons_succ] at i0 i1 i2
  clear hm
  go_wp2_with fail; clear e31 e33 HF; intro _ HF
  rcases b1 with _ | _
  · skip
    refine sl_move HF rfl rfl (.inl rfl) (by decide) rfl ?_; clear HF; intro _ HF
    refine sl_skip HF rfl rfl rfl rfl (by decide) ?_; clear HF; intro _ HF
    refine sl_skip HF rfl rfl rfl rfl (by decide) ?_; clear HF; intro _ HF
    refine sl_skip HF rfl rfl rfl rfl (by decide) ?_; clear HF; intro _ HF
    refine sl_skip HF rfl rfl rfl rfl (by decide) ?_; clear HF; intro _ HF
    refine sl_skip HF rfl rfl rfl rfl (by decide) ?_; clear HF; intro _ HF
    refine sl_skip HF rfl rfl rfl rfl (by decide) ?_; clear HF; intro _ HF
    refine sl_skip HF rfl rfl rfl rfl (by decide) ?_; clear HF; intro _ HF
    refine sl_skip HF rfl rfl rfl rfl (by decide) ?_; clear HF; intro _ HF
    refine sl_op HF rfl rfl (by decide) ?_; intro K hK; have e35 := HF.see 35 rfl; have e43 := HF.see 43 rfl; go_wp2_with fail; clear e35 e43 HF; intro _ HF
    refine sl_move HF rfl rfl (.inr rfl) (by decide) rfl ?_; clear HF; intro _ HF
    have HF2 := HF.keep [6]
    simp only [pick, look] at HF2
    exact sl_nil (wp_ret (HQ.out _ _ _ HF2 (fun h => by cases h) HM3.out))
  · obtain ⟨j, l, hj, hl, hlk, hlg⟩ := litIs_get HH.out
    subst hj
    have HFC := Lib.hid (HK.out.kf _ HM3.out)
    obtain ⟨ad, hA2, hab, l0, l1, l2⟩ := eqLit_at HFC.out.r2 hl
    have hjl : j < c.lits.length := (List.getElem?_eq_some_iff.1 hl).1
    have HLG := Lib.hid hlg
    have HLK := Lib.hid hlk
    have htx : l.text.length ≤ 2000000 := HK.out.kt _ (List.mem_of_getElem? hl)
    rw [hA2] at k2
    clear hl hlk hlg hA2 HH hb1
    have hn2 := HFC.out.n2
    have hm2 := HFC.out.m2
    obtain ⟨nl, hnl⟩ : ∃ nl, c.lits.length = nl := ⟨_, rfl⟩
    rw [hnl] at k2 hjl hn2
    clear hnl HFC
    have HL := Lib.hid (fun w => r6Class_any l.text (by omega) w)
    refine sl_move HF rfl rfl (.inl rfl) (by decide) rfl ?_; clear HF; intro _ HF
    refine sl_want HF rfl rfl rfl rfl (by decide) ?_; intro K hK; have e3 := HF.see 3 rfl; go_wp2_with fail; clear e3 HF; intro _ HF
    refine sl_want HF rfl rfl rfl rfl (by decide) ?_; intro K hK; have e36 := HF.see 36 rfl; go_wp2_with fail; clear e36 HF; intro _ HF
    refine sl_want HF rfl rfl rfl rfl (by decide) ?_; intro K hK; have e5 := HF.see 5 rfl; go_wp2_with fail; clear e5 HF; intro _ HF
    refine sl_want HF rfl rfl rfl rfl (by decide) ?_; intro K hK; have e38 := HF.see 38 rfl; go_wp2_with fail; clear e38 HF; intro _ HF
    refine sl_want HF rfl rfl rfl rfl (by decide) ?_; intro K hK; have e37 := HF.see 37 rfl; have e39 := HF.see 39 rfl; go_wp2_with fail; clear e37 e39 HF; intro _ HF
    refine sl_want HF rfl rfl rfl rfl (by decide) ?_; intro K hK; have e40 := HF.see 40 rfl; go_wp2_with fail; clear e40 HF; intro _ HF
    refine sl_want HF rfl rfl rfl rfl (by decide) ?_; intro K hK; have e41 := HF.see 41 rfl; go_wp2_with fail; clear e41 HF; intro _ HF
    refine sl_want HF rfl rfl rfl rfl (by decide) ?_; intro K hK; have e42 := HF.see 42 rfl; go_wp2_with fail
    refine (HL.out _).mono ?_
    rintro e w4 ⟨rfl, rfl⟩
    have HM4 := HM3
    go_wp2_with fail; clear e42 HF; intro _ HF
    refine sl_op HF rfl rfl (by decide) ?_; intro K hK; have e35 := HF.see 35 rfl; have e43 := HF.see 43 rfl; go_wp2_with fail; clear e35 e43 HF; intro _ HF
    refine sl_move HF rfl rfl (.inr rfl) (by decide) rfl ?_; clear HF; intro _ HF
    have HF2 := HF.keep [6]
    simp only [pick, look] at HF2
    exact sl_nil (wp_ret (HQ.out _ _ _ HF2 (fun h => by subst h1x; rw [mayF_plain (by simp) (by simp)]; simp [mayL, HLG.out, HLK.out, h]) HM4.out))

set_option maxHeartbeats 1600000 in
set_option maxRecDepth 100000 in
theorem rm_var {Q : Exit → Act → World → Prop} {ac : Act} {w0 w : World} {c : CodeT} {v : CodeV} {ar : List CodeT} {rows : List (List Value)} {A5 : Option Addr} {n5 c5 g3 g5 : Nat} {o xa xb : Int}
    (HF : Sl 159 [(1, .slice A5 n5 c5), (3, .pointer (some ⟨g3, 0, none⟩)), (5, .pointer (some ⟨g5, 0, none⟩))] ac) (hk : KF w0 c v ar rows A5 n5 c5) (hm : Mod Nil w0 w) (hb : Blk w g3 26 (codeArr c v)) (hi : Blk w g5 33 #[.int .i64 o, .int .i64 xa, .int .i64 xb]) (hx : InsT.ok ⟨o, xa, xb⟩) (h1x : o = 8 ∨ o = 9)
    (hQ : ∀ a' w' r, Sl 159 [(6, .bool r)] a' → (r = true → mayF c ar ⟨o, xa, xb⟩ = true) → Mod Nil w0 w' → Q .ret a' w') : (part [1, 0, 1, 0, 1, 1, 1, 1, 1, 1, 1, 0] rmyBody).wp Tryd.prog Q ac w := by
  have HK := Lib.hid hk
  have HM := Lib.hid hm
  have HQ := Lib.hid hQ
  have HB := Lib.hid hb
  have HI := Lib.hid hi
  have HX := Lib.hid hx
  obtain ⟨k0, k1, k2, k3, k4, k5⟩ := code_boxed hb
  have i0 := hi.cell 0
  have i1 := hi.cell 1
  have i2 := hi.cell 2
  simp only [List.getElem?_toArray, List.getElem?_cons_zero, List.getElem?_cons_succ] at i0 i1 i2
  clear hk hm hQ hb hi hx
  conv => arg 2; whnf
  refine wp_seq (wp_region_lit ?_)
  obtain ⟨b1, hb1⟩ : ∃ b, litIs c xa 4 = b := ⟨_, rfl⟩
  have HH := Lib.hid hb1
  have HL := Lib.hid (rLit_any c v xa 4 _ (fun w' h => HK.out.kf w' (HM.out.trans h)))
  unfold codeArr at HL
  rw [hb1] at HL
  refine sl_op HF rfl rfl (by decide) ?_; intro K hK; have e3 := HF.see 3 rfl; go_wp2_with fail; clear e3 HF; intro _ HF
  refine sl_op HF rfl rfl (by decide) ?_; intro K hK; have e5 := HF.see 5 rfl; go_wp2_with fail; clear e5 HF; intro _ HF
  refine sl_op HF rfl rfl (by decide) ?_; intro K hK; have e85 := HF.see 85 rfl; go_wp2_with fail; clear e85 HF; intro _ HF
  refine sl_op HF rfl rfl (by decide) ?_; intro K hK; have e84 := HF.see 84 rfl; have e86 := HF.see 86 rfl; go_wp2_with fail
  refine HL.out.mono ?_
  rintro e w3 ⟨rfl, hm⟩
  have HM3 := Lib.hid (HM.out.trans hm)
  have HB' := Lib.hid (HB.out.keep hm id)
  have HI' := Lib.hid (HI.out.keep hm id)
  clear HB HI k0 k1 k2 k3 k4 k5 i0 i1 i2 HL
  have HB := HB'
  have HI := HI'
  clear HB' HI'
  obtain ⟨k0, k1, k2, k3, k4, k5⟩ := code_boxed HB.out
  have i0 := HI.out.cell 0
  have i1 := HI.out.cell 1
  have i2 := HI.out.cell 2
  simp only [List.getElem?_toArray, List.getElem?_cons_zero, List.getElem?_cons_succ] at i0 i1 i2
  clear hm
  go_wp2_with fail; clear e84 e86 HF; intro _ HF
  rcases b1 with _ | _
  · skip
    refine sl_move HF rfl rfl (.inl rfl) (by decide) rfl ?_; clear HF; intro _ HF
    refine sl_skip HF rfl rfl rfl rfl (by decide) ?_; clear HF; intro _ HF
    refine sl_skip HF rfl rfl rfl rfl (by decide) ?_; clear HF; intro _ HF
    refine sl_skip HF rfl rfl rfl rfl (by decide) ?_; clear HF; intro _ HF
    refine sl_skip HF rfl rfl rfl rfl (by decide) ?_; clear HF; intro _ HF
    refine sl_skip HF rfl rfl rfl rfl (by decide) ?_; clear HF; intro _ HF
    refine sl_skip HF rfl rfl rfl rfl (by decide) ?_; clear HF; intro _ HF
    refine sl_skip HF rfl rfl rfl rfl (by decide) ?_; clear HF; intro _ HF
    refine sl_skip HF rfl rfl rfl rfl (by decide) ?_; clear HF; intro _ HF
    refine sl_op HF rfl rfl (by decide) ?_; intro K hK; have e88 := HF.see 88 rfl; have e96 := HF.see 96 rfl; go_wp2_with fail; clear e88 e96 HF; intro _ HF
    refine sl_move HF rfl rfl (.inr rfl) (by decide) rfl ?_; clear HF; intro _ HF
    have HF2 := HF.keep [6]
    simp only [pick, look] at HF2
    exact sl_nil (wp_ret (HQ.out _ _ _ HF2 (fun h => by cases h) HM3.out))
  · obtain ⟨j, l, hj, hl, hlk, hlg⟩ := litIs_get HH.out
    subst hj
    have HFC := Lib.hid (HK.out.kf _ HM3.out)
    obtain ⟨ad, hA2, hab, l0, l1, l2⟩ := eqLit_at HFC.out.r2 hl
    have hjl : j < c.lits.length := (List.getElem?_eq_some_iff.1 hl).1
    have HLG := Lib.hid hlg
    have HLK := Lib.hid hlk
    have htx : l.text.length ≤ 2000000 := HK.out.kt _ (List.mem_of_getElem? hl)
    rw [hA2] at k2
    clear hl hlk hlg hA2 HH hb1
    have hn2 := HFC.out.n2
    have hm2 := HFC.out.m2
    obtain ⟨nl, hnl⟩ : ∃ nl, c.lits.length = nl := ⟨_, rfl⟩
    rw [hnl] at k2 hjl hn2
    clear hnl HFC
    have HL := Lib.hid (fun w => r6Var_any l.text (by omega) w)
    refine sl_move HF rfl rfl (.inl rfl) (by decide) rfl ?_; clear HF; intro _ HF
    refine sl_want HF rfl rfl rfl rfl (by decide) ?_; intro K hK; have e3 := HF.see 3 rfl; go_wp2_with fail; clear e3 HF; intro _ HF
    refine sl_want HF rfl rfl rfl rfl (by decide) ?_; intro K hK; have e89 := HF.see 89 rfl; go_wp2_with fail; clear e89 HF; intro _ HF
    refine sl_want HF rfl rfl rfl rfl (by decide) ?_; intro K hK; have e5 := HF.see 5 rfl; go_wp2_with fail; clear e5 HF; intro _ HF
    refine sl_want HF rfl rfl rfl rfl (by decide) ?_; intro K hK; have e91 := HF.see 91 rfl; go_wp2_with fail; clear e91 HF; intro _ HF
    refine sl_want HF rfl rfl rfl rfl (by decide) ?_; intro K hK; have e90 := HF.see 90 rfl; have e92 := HF.see 92 rfl; go_wp2_with fail; clear e90 e92 HF; intro _ HF
    refine sl_want HF rfl rfl rfl rfl (by decide) ?_; intro K hK; have e93 := HF.see 93 rfl; go_wp2_with fail; clear e93 HF; intro _ HF
    refine sl_want HF rfl rfl rfl rfl (by decide) ?_; intro K hK; have e94 := HF.see 94 rfl; go_wp2_with fail; clear e94 HF; intro _ HF
    refine sl_want HF rfl rfl rfl rfl (by decide) ?_; intro K hK; have e95 := HF.see 95 rfl; go_wp2_with fail
    refine (HL.out _).mono ?_
    rintro e w4 ⟨rfl, hm⟩
    have HM4 := Lib.hid (HM3.out.trans hm)
    go_wp2_with fail; clear e95 HF; intro _ HF
    refine sl_op HF rfl rfl (by decide) ?_; intro K hK; have e88 := HF.see 88 rfl; have e96 := HF.see 96 rfl; go_wp2_with fail; clear e88 e96 HF; intro _ HF
    refine sl_move HF rfl rfl (.inr rfl) (by decide) rfl ?_; clear HF; intro _ HF
    have HF2 := HF.keep [6]
    simp only [pick, look] at HF2
    exact sl_nil (wp_ret (HQ.out _ _ _ HF2 (fun h => by rcases h1x with rfl | rfl <;> (rw [mayF_plain (by simp) (by simp)]; simp [mayL, HLG.out, HLK.out, h])) HM4.out))

set_option maxHeartbeats 1600000 in
set_option maxRecDepth 100000 in
theorem rm_block {Q : Exit → Act → World → Prop} {ac : Act} {w0 w : World} {c : CodeT} {v : CodeV} {ar : List CodeT} {rows : List (List Value)} {A5 : Option Addr} {n5 c5 g3 g5 : Nat} {o xa xb : Int}
    (HF : Sl 159 [(1, .slice A5 n5 c5), (3, .pointer (some ⟨g3, 0, none⟩)), (5, .pointer (some ⟨g5, 0, none⟩))] ac) (hk : KF w0 c v ar rows A5 n5 c5) (hm : Mod Nil w0 w) (hb : Blk w g3 26 (codeArr c v)) (hi : Blk w g5 33 #[.int .i64 o, .int .i64 xa, .int .i64 xb]) (hx : InsT.ok ⟨o, xa, xb⟩) (h1x : o = 12)
    (hQ : ∀ a' w' r, Sl 159 [(6, .bool r)] a' → (r = true → mayF c ar ⟨o, xa, xb⟩ = true) → Mod Nil w0 w' → Q .ret a' w') : (part [1, 0, 1, 0, 1, 1, 1, 1, 1, 1, 1, 1, 1, 1, 1, 0] rmyBody).wp Tryd.prog Q ac w := by
  have HK := Lib.hid hk
  have HM := Lib.hid hm
  have HQ := Lib.hid hQ
  have HB := Lib.hid hb
  have HI := Lib.hid hi
  have HX := Lib.hid hx
  obtain ⟨k0, k1, k2, k3, k4, k5⟩ := code_boxed hb
  have i0 := hi.cell 0
  have i1 := hi.cell 1
  have i2 := hi.cell 2
  simp only [List.getElem?_toArray, List.getElem?_cons_zero, List.getElem?_cons_succ] at i0 i1 i2
  clear hk hm hQ hb hi hx
  conv => arg 2; whnf
  refine wp_seq (wp_region_lit ?_)
  rcases h0 : decide (0 ≤ xa) with _ | _
  · skip
    refine sl_op HF rfl rfl (by decide) ?_; intro K hK; have e5 := HF.see 5 rfl; go_wp2_with fail; clear e5 HF; intro _ HF
    refine sl_op HF rfl rfl (by decide) ?_; intro K hK; have e125 := HF.see 125 rfl; go_wp2_with fail; clear e125 HF; intro _ HF
    refine sl_op HF rfl rfl (by decide) ?_; intro K hK; have e126 := HF.see 126 rfl; go_wp2_with fail; clear e126 HF; intro _ HF
    refine sl_move HF rfl rfl (.inl rfl) (by decide) rfl ?_; clear HF; intro _ HF
    refine sl_skip HF rfl rfl rfl rfl (by decide) ?_; clear HF; intro _ HF
    refine sl_skip HF rfl rfl rfl rfl (by decide) ?_; clear HF; intro _ HF
    refine sl_skip HF rfl rfl rfl rfl (by decide) ?_; clear HF; intro _ HF
    refine sl_skip HF rfl rfl rfl rfl (by decide) ?_; clear HF; intro _ HF
    refine sl_skip HF rfl rfl rfl rfl (by decide) ?_; clear HF; intro _ HF
    refine sl_skip HF rfl rfl rfl rfl (by decide) ?_; clear HF; intro _ HF
    refine sl_op HF rfl rfl (by decide) ?_; intro K hK; have e128 := HF.see 128 rfl; have e134 := HF.see 134 rfl; go_wp2_with fail; clear e128 e134 HF; intro _ HF
    refine sl_move HF rfl rfl (.inr rfl) (by decide) rfl ?_; clear HF; intro _ HF
    have HF2 := HF.keep [6]
    simp only [pick, look] at HF2
    exact sl_nil (wp_ret (HQ.out _ _ _ HF2 (fun h => by cases h) HM.out))
  · rcases h1 : decide (xa < (c.blocks.length : Int)) with _ | _
    · skip
      refine sl_op HF rfl rfl (by decide) ?_; intro K hK; have e5 := HF.see 5 rfl; go_wp2_with fail; clear e5 HF; intro _ HF
      refine sl_op HF rfl rfl (by decide) ?_; intro K hK; have e125 := HF.see 125 rfl; go_wp2_with fail; clear e125 HF; intro _ HF
      refine sl_op HF rfl rfl (by decide) ?_; intro K hK; have e126 := HF.see 126 rfl; go_wp2_with fail; clear e126 HF; intro _ HF
      refine sl_move HF rfl rfl (.inl rfl) (by decide) rfl ?_; clear HF; intro _ HF
      refine sl_want HF rfl rfl rfl rfl (by decide) ?_; intro K hK; have e5 := HF.see 5 rfl; go_wp2_with fail; clear e5 HF; intro _ HF
      refine sl_want HF rfl rfl rfl rfl (by decide) ?_; intro K hK; have e129 := HF.see 129 rfl; go_wp2_with fail; clear e129 HF; intro _ HF
      refine sl_want HF rfl rfl rfl rfl (by decide) ?_; intro K hK; have e3 := HF.see 3 rfl; go_wp2_with fail; clear e3 HF; intro _ HF
      refine sl_want HF rfl rfl rfl rfl (by decide) ?_; intro K hK; have e131 := HF.see 131 rfl; go_wp2_with fail; clear e131 HF; intro _ HF
      refine sl_want HF rfl rfl rfl rfl (by decide) ?_; intro K hK; have e132 := HF.see 132 rfl; go_wp2_with fail; clear e132 HF; intro _ HF
      refine sl_want HF rfl rfl rfl rfl (by decide) ?_; intro K hK; have e130 := HF.see 130 rfl; have e133 := HF.see 133 rfl; go_wp2_with fail; clear e130 e133 HF; intro _ HF
      refine sl_op HF rfl rfl (by decide) ?_; intro K hK; have e128 := HF.see 128 rfl; have e134 := HF.see 134 rfl; go_wp2_with fail; clear e128 e134 HF; intro _ HF
      refine sl_move HF rfl rfl (.inr rfl) (by decide) rfl ?_; clear HF; intro _ HF
      have HF2 := HF.keep [6]
      simp only [pick, look] at HF2
      exact sl_nil (wp_ret (HQ.out _ _ _ HF2 (fun h => by cases h) HM.out))
    · have HH := Lib.hid (And.intro h0 h1)
      refine sl_op HF rfl rfl (by decide) ?_; intro K hK; have e5 := HF.see 5 rfl; go_wp2_with fail; clear e5 HF; intro _ HF
      refine sl_op HF rfl rfl (by decide) ?_; intro K hK; have e125 := HF.see 125 rfl; go_wp2_with fail; clear e125 HF; intro _ HF
      refine sl_op HF rfl rfl (by decide) ?_; intro K hK; have e126 := HF.see 126 rfl; go_wp2_with fail; clear e126 HF; intro _ HF
      refine sl_move HF rfl rfl (.inl rfl) (by decide) rfl ?_; clear HF; intro _ HF
      refine sl_want HF rfl rfl rfl rfl (by decide) ?_; intro K hK; have e5 := HF.see 5 rfl; go_wp2_with fail; clear e5 HF; intro _ HF
      refine sl_want HF rfl rfl rfl rfl (by decide) ?_; intro K hK; have e129 := HF.see 129 rfl; go_wp2_with fail; clear e129 HF; intro _ HF
      refine sl_want HF rfl rfl rfl rfl (by decide) ?_; intro K hK; have e3 := HF.see 3 rfl; go_wp2_with fail; clear e3 HF; intro _ HF
      refine sl_want HF rfl rfl rfl rfl (by decide) ?_; intro K hK; have e131 := HF.see 131 rfl; go_wp2_with fail; clear e131 HF; intro _ HF
      refine sl_want HF rfl rfl rfl rfl (by decide) ?_; intro K hK; have e132 := HF.see 132 rfl; go_wp2_with fail; clear e132 HF; intro _ HF
      refine sl_want HF rfl rfl rfl rfl (by decide) ?_; intro K hK; have e130 := HF.see 130 rfl; have e133 := HF.see 133 rfl; go_wp2_with fail; clear e130 e133 HF; intro _ HF
      refine sl_op HF rfl rfl (by decide) ?_; intro K hK; have e128 := HF.see 128 rfl; have e134 := HF.see 134 rfl; go_wp2_with fail; clear e128 e134 HF; intro _ HF
      refine sl_move HF rfl rfl (.inr rfl) (by decide) rfl ?_; clear HF; intro _ HF
      have HF2 := HF.keep [6]
      simp only [pick, look] at HF2
      exact sl_nil (wp_ret (HQ.out _ _ _ HF2 (fun _ => by subst h1x; rw [mayF_plain (by simp) (by simp)]; simp only [mayL]; simp [HH.out.1, HH.out.2] <;> exact ⟨by simpa using HH.out.1, by simpa using HH.out.2⟩) HM.out))

set_option maxHeartbeats 1600000 in
set_option maxRecDepth 100000 in
theorem rm_array {Q : Exit → Act → World → Prop} {ac : Act} {w0 w : World} {c : CodeT} {v : CodeV} {ar : List CodeT} {rows : List (List Value)} {A5 : Option Addr} {n5 c5 g3 g5 : Nat} {o xa xb : Int}
    (HF : Sl 159 [(1, .slice A5 n5 c5), (3, .pointer (some ⟨g3, 0, none⟩)), (5, .pointer (some ⟨g5, 0, none⟩))] ac) (hk : KF w0 c v ar rows A5 n5 c5) (hm : Mod Nil w0 w) (hb : Blk w g3 26 (codeArr c v)) (hi : Blk w g5 33 #[.int .i64 o, .int .i64 xa, .int .i64 xb]) (hx : InsT.ok ⟨o, xa, xb⟩) (h1x : o = 13)
    (hQ : ∀ a' w' r, Sl 159 [(6, .bool r)] a' → (r = true → mayF c ar ⟨o, xa, xb⟩ = true) → Mod Nil w0 w' → Q .ret a' w') : (part [1, 0, 1, 0, 1, 1, 1, 1, 1, 1, 1, 1, 1, 1, 1, 1, 1, 0] rmyBody).wp Tryd.prog Q ac w := by
  have HK := Lib.hid hk
  have HM := Lib.hid hm
  have HQ := Lib.hid hQ
  have HB := Lib.hid hb
  have HI := Lib.hid hi
  have HX := Lib.hid hx
  obtain ⟨k0, k1, k2, k3, k4, k5⟩ := code_boxed hb
  have i0 := hi.cell 0
  have i1 := hi.cell 1
  have i2 := hi.cell 2
  simp only [List.getElem?_toArray, List.getElem?_cons_zero, List.getElem?_cons_succ] at i0 i1 i2
  clear hk hm hQ hb hi hx
  conv => arg 2; whnf
  refine wp_seq (wp_region_lit ?_)
  rcases h0 : decide (0 ≤ xa) with _ | _
  · skip
    refine sl_op HF rfl rfl (by decide) ?_; intro K hK; have e5 := HF.see 5 rfl; go_wp2_with fail; clear e5 HF; intro _ HF
    refine sl_op HF rfl rfl (by decide) ?_; intro K hK; have e138 := HF.see 138 rfl; go_wp2_with fail; clear e138 HF; intro _ HF
    refine sl_op HF rfl rfl (by decide) ?_; intro K hK; have e139 := HF.see 139 rfl; go_wp2_with fail; clear e139 HF; intro _ HF
    refine sl_move HF rfl rfl (.inl rfl) (by decide) rfl ?_; clear HF; intro _ HF
    refine sl_skip HF rfl rfl rfl rfl (by decide) ?_; clear HF; intro _ HF
    refine sl_skip HF rfl rfl rfl rfl (by decide) ?_; clear HF; intro _ HF
    refine sl_skip HF rfl rfl rfl rfl (by decide) ?_; clear HF; intro _ HF
    refine sl_op HF rfl rfl (by decide) ?_; intro K hK; have e141 := HF.see 141 rfl; have e144 := HF.see 144 rfl; go_wp2_with fail; clear e141 e144 HF; intro _ HF
    refine sl_move HF rfl rfl (.inr rfl) (by decide) rfl ?_; clear HF; intro _ HF
    have HF2 := HF.keep [6]
    simp only [pick, look] at HF2
    exact sl_nil (wp_ret (HQ.out _ _ _ HF2 (fun h => by cases h) HM.out))
  · rcases h1 : decide (xa ≤ 1000) with _ | _
    · skip
      refine sl_op HF rfl rfl (by decide) ?_; intro K hK; have e5 := HF.see 5 rfl; go_wp2_with fail; clear e5 HF; intro _ HF
      refine sl_op HF rfl rfl (by decide) ?_; intro K hK; have e138 := HF.see 138 rfl; go_wp2_with fail; clear e138 HF; intro _ HF
      refine sl_op HF rfl rfl (by decide) ?_; intro K hK; have e139 := HF.see 139 rfl; go_wp2_with fail; clear e139 HF; intro _ HF
      refine sl_move HF rfl rfl (.inl rfl) (by decide) rfl ?_; clear HF; intro _ HF
      refine sl_want HF rfl rfl rfl rfl (by decide) ?_; intro K hK; have e5 := HF.see 5 rfl; go_wp2_with fail; clear e5 HF; intro _ HF
      refine sl_want HF rfl rfl rfl rfl (by decide) ?_; intro K hK; have e142 := HF.see 142 rfl; go_wp2_with fail; clear e142 HF; intro _ HF
      refine sl_want HF rfl rfl rfl rfl (by decide) ?_; intro K hK; have e143 := HF.see 143 rfl; go_wp2_with fail; clear e143 HF; intro _ HF
      refine sl_op HF rfl rfl (by decide) ?_; intro K hK; have e141 := HF.see 141 rfl; have e144 := HF.see 144 rfl; go_wp2_with fail; clear e141 e144 HF; intro _ HF
      refine sl_move HF rfl rfl (.inr rfl) (by decide) rfl ?_; clear HF; intro _ HF
      have HF2 := HF.keep [6]
      simp only [pick, look] at HF2
      exact sl_nil (wp_ret (HQ.out _ _ _ HF2 (fun h => by cases h) HM.out))
    · have HH := Lib.hid (And.intro h0 h1)
      refine sl_op HF rfl rfl (by decide) ?_; intro K hK; have e5 := HF.see 5 rfl; go_wp2_with fail; clear e5 HF; intro _ HF
      refine sl_op HF rfl rfl (by decide) ?_; intro K hK; have e138 := HF.see 138 rfl; go_wp2_with fail; clear e138 HF; intro _ HF
      refine sl_op HF rfl rfl (by decide) ?_; intro K hK; have e139 := HF.see 139 rfl; go_wp2_with fail; clear e139 HF; intro _ HF
      refine sl_move HF rfl rfl (.inl rfl) (by decide) rfl ?_; clear HF; intro _ HF
      refine sl_want HF rfl rfl rfl rfl (by decide) ?_; intro K hK; have e5 := HF.see 5 rfl; go_wp2_with fail; clear e5 HF; intro _ HF
      refine sl_want HF rfl rfl rfl rfl (by decide) ?_; intro K hK; have e142 := HF.see 142 rfl; go_wp2_with fail; clear e142 HF; intro _ HF
      refine sl_want HF rfl rfl rfl rfl (by decide) ?_; intro K hK; have e143 := HF.see 143 rfl; go_wp2_with fail; clear e143 HF; intro _ HF
      refine sl_op HF rfl rfl (by decide) ?_; intro K hK; have e141 := HF.see 141 rfl; have e144 := HF.see 144 rfl; go_wp2_with fail; clear e141 e144 HF; intro _ HF
      refine sl_move HF rfl rfl (.inr rfl) (by decide) rfl ?_; clear HF; intro _ HF
      have HF2 := HF.keep [6]
      simp only [pick, look] at HF2
      exact sl_nil (wp_ret (HQ.out _ _ _ HF2 (fun _ => by subst h1x; rw [mayF_plain (by simp) (by simp)]; simp only [mayL]; simp <;> exact ⟨by simpa using HH.out.1, by simpa using HH.out.2⟩) HM.out))

set_option maxHeartbeats 1600000 in
set_option maxRecDepth 100000 in
theorem rm_end {Q : Exit → Act → World → Prop} {ac : Act} {w0 w : World} {c : CodeT} {v : CodeV} {ar : List CodeT} {rows : List (List Value)} {A5 : Option Addr} {n5 c5 g3 g5 : Nat} {o xa xb : Int}
    (HF : Sl 159 [(1, .slice A5 n5 c5), (3, .pointer (some ⟨g3, 0, none⟩)), (5, .pointer (some ⟨g5, 0, none⟩))] ac) (hk : KF w0 c v ar rows A5 n5 c5) (hm : Mod Nil w0 w) (hb : Blk w g3 26 (codeArr c v)) (hi : Blk w g5 33 #[.int .i64 o, .int .i64 xa, .int .i64 xb]) (hx : InsT.ok ⟨o, xa, xb⟩) (h1x : o = 16)
    (hQ : ∀ a' w' r, Sl 159 [(6, .bool r)] a' → (r = true → mayF c ar ⟨o, xa, xb⟩ = true) → Mod Nil w0 w' → Q .ret a' w') : (part [1, 0, 1, 0, 1, 1, 1, 1, 1, 1, 1, 1, 1, 1, 1, 1, 1, 1, 1, 0] rmyBody).wp Tryd.prog Q ac w := by
  have HK := Lib.hid hk
  have HM := Lib.hid hm
  have HQ := Lib.hid hQ
  have HB := Lib.hid hb
  have HI := Lib.hid hi
  have HX := Lib.hid hx
  obtain ⟨k0, k1, k2, k3, k4, k5⟩ := code_boxed hb
  have i0 := hi.cell 0
  have i1 := hi.cell 1
  have i2 := hi.cell 2
  simp only [List.getElem?_toArray, List.getElem?_cons_zero, List.getElem?_cons_succ] at i0 i1 i2
  clear hk hm hQ hb hi hx
  conv => arg 2; whnf
  refine wp_seq (wp_region_lit ?_)
  rcases h0 : decide (0 < (n5 : Int)) with _ | _
  · have h0' : decide (0 < n5) = false := by rw [← h0]; simp
    refine sl_move HF rfl rfl (.inl rfl) (by decide) rfl ?_; clear HF; intro _ HF
    refine sl_op HF rfl rfl (by decide) ?_; intro K hK; have e148 := HF.see 148 rfl; go_wp2_with fail; clear e148 HF; intro _ HF
    refine sl_op HF rfl rfl (by decide) ?_; intro K hK; have e149 := HF.see 149 rfl; go_wp2_with fail; clear e149 HF; intro _ HF
    refine sl_move HF rfl rfl (.inr rfl) (by decide) rfl ?_; clear HF; intro _ HF
    have HF2 := HF.keep [6]
    simp only [pick, look] at HF2
    exact sl_nil (wp_ret (HQ.out _ _ _ HF2 (fun h => by cases h) HM.out))
  · have h0' : decide (0 < n5) = true := by rw [← h0]; simp
    have HH := Lib.hid h0'
    refine sl_move HF rfl rfl (.inl rfl) (by decide) rfl ?_; clear HF; intro _ HF
    refine sl_op HF rfl rfl (by decide) ?_; intro K hK; have e148 := HF.see 148 rfl; go_wp2_with fail; clear e148 HF; intro _ HF
    refine sl_op HF rfl rfl (by decide) ?_; intro K hK; have e149 := HF.see 149 rfl; go_wp2_with fail; clear e149 HF; intro _ HF
    refine sl_move HF rfl rfl (.inr rfl) (by decide) rfl ?_; clear HF; intro _ HF
    have HF2 := HF.keep [6]
    simp only [pick, look] at HF2
    exact sl_nil (wp_ret (HQ.out _ _ _ HF2 (fun _ => by subst h1x; rw [mayF_plain (by simp) (by simp)]; simp only [mayL]; rw [← HK.out.ka.cnt]; simp <;> simpa using HH.out) HM.out))

set_option maxHeartbeats 1600000 in
set_option maxRecDepth 100000 in
theorem rm_send {Q : Exit → Act → World → Prop} {ac : Act} {w0 w : World} {c : CodeT} {v : CodeV} {ar : List CodeT} {rows : List (List Value)} {A5 : Option Addr} {n5 c5 g3 g5 : Nat} {o xa xb : Int}
    (HF : Sl 159 [(1, .slice A5 n5 c5), (3, .pointer (some ⟨g3, 0, none⟩)), (5, .pointer (some ⟨g5, 0, none⟩))] ac) (hk : KF w0 c v ar rows A5 n5 c5) (hm : Mod Nil w0 w) (hb : Blk w g3 26 (codeArr c v)) (hi : Blk w g5 33 #[.int .i64 o, .int .i64 xa, .int .i64 xb]) (hx : InsT.ok ⟨o, xa, xb⟩) (h1x : o = 10 ∨ o = 11)
    (hQ : ∀ a' w' r, Sl 159 [(6, .bool r)] a' → (r = true → mayF c ar ⟨o, xa, xb⟩ = true) → Mod Nil w0 w' → Q .ret a' w') : (part [1, 0, 1, 0, 1, 1, 1, 1, 1, 1, 1, 1, 1, 0] rmyBody).wp Tryd.prog Q ac w := by
  have HK := Lib.hid hk
  have HM := Lib.hid hm
  have HQ := Lib.hid hQ
  have HB := Lib.hid hb
  have HI := Lib.hid hi
  have HX := Lib.hid hx
  obtain ⟨k0, k1, k2, k3, k4, k5⟩ := code_boxed hb
  have i0 := hi.cell 0
  have i1 := hi.cell 1
  have i2 := hi.cell 2
  simp only [List.getElem?_toArray, List.getElem?_cons_zero, List.getElem?_cons_succ] at i0 i1 i2
  clear hk hm hQ hb hi hx
  conv => arg 2; whnf
  refine wp_seq ?_
  obtain ⟨W, hW⟩ : ∃ W, W = w.drew := ⟨_, rfl⟩
  have HW := Lib.hid hW
  have HM0 := Lib.hid ((Mod.refl Nil w).drew)
  have HFS := Lib.hid (show ∀ wx, Mod Nil W wx → Blk wx g3 26 (codeArr c v) ∧ Blk wx g5 33 #[.int .i64 o, .int .i64 xa, .int .i64 xb] from fun wx h => ⟨HB.out.keep (HM0.out.trans (hW ▸ h)) id, HI.out.keep (HM0.out.trans (hW ▸ h)) id⟩)
  have HMW := Lib.hid (show ∀ wx, Mod Nil W wx → Mod Nil w0 wx from fun wx h => HM.out.trans (HM0.out.trans (hW ▸ h)))
  clear hW k0 k1 k2 k3 k4 k5 i0 i1 i2
  obtain ⟨b1, hb1⟩ : ∃ b, litIs c xa 3 = b := ⟨_, rfl⟩
  have HL := Lib.hid (fun wx (h : Mod Nil W wx) => rLit_any c v xa 3 wx (fun w' h' => HK.out.kf w' ((HMW.out wx h).trans h')))
  unfold codeArr at HL
  rw [hb1] at HL
  rcases b1 with _ | _
  · skip
    apply sl_flow6 (N := 1) [some 101, some 102, some 103, some 104, some 105, some 106, some 107, some 108, some 109, some 110, some 111, some 112, some 113, some 114, some 115, some 116, some 117, some 118, some 119, some 120, some 121, some 122, some 6] [.quiet [] [0], .quiet [] [0], .quiet [] [0], .writes 0 [] [], .quiet [0] [], .quiet [0] [], .quiet [0] [], .quiet [0] [], .quiet [0] [], .quiet [0] [], .quiet [0] [], .quiet [0] [], .quiet [0] [], .quiet [0] [], .quiet [0] [], .quiet [0] [], .quiet [0] [], .quiet [0] [], .quiet [0] [], .quiet [0] [], .quiet [0] [], .quiet [0] [], .quiet [0] []] (PhK W (fun _ => .bool false)) [_, _, _, (fun h => h 0), _, (fun _ => undef), (fun _ => undef), (fun _ => undef), _, _, (fun _ => undef), (fun _ => undef), (fun _ => undef), (fun _ => undef), (fun _ => undef), (fun _ => undef), (fun _ => undef), (fun _ => undef), (fun _ => undef), (fun _ => undef), (fun _ => undef), _, _] HF
    case hm => kernel_rfl
    case hok => kernel_rfl
    case hfl => rfl
    case h0 => exact (fun h => HW.out ▸ PhK.init h)
    case hobs =>
      apply And.intro
      · apply obm_quiet
        case hg => rfl
        case hop =>
          intro ax wx h S hD hE hP hk K hK
          have e3 := hk.see 3 rfl rfl
          have n0 := hE 0 (by decide)
          clear hk hD hE
          obtain ⟨hb3, hb5⟩ := HFS.out _ hP.mod
          obtain ⟨k0, k1, k2, k3, k4, k5⟩ := code_boxed hb3
          have i1 := hb5.cell 1
          have i2 := hb5.cell 2
          simp only [List.getElem?_toArray, List.getElem?_cons_zero, List.getElem?_cons_succ] at i1 i2
          clear hb3 hb5
          go_wp2_with fail
          all_goals first | exact hP | rfl
        case hst => exact fun h h' e => rfl
      apply And.intro
      · apply obm_quiet
        case hg => rfl
        case hop =>
          intro ax wx h S hD hE hP hk K hK
          have e5 := hk.see 5 rfl rfl
          have n0 := hE 0 (by decide)
          clear hk hD hE
          go_wp2_with fail
          all_goals first | exact hP | rfl
        case hst => exact fun h h' e => rfl
      apply And.intro
      · apply obm_quiet
        case hg => rfl
        case hop =>
          intro ax wx h S hD hE hP hk K hK
          have e102 := hk.see 102 rfl rfl
          have n0 := hE 0 (by decide)
          clear hk hD hE
          obtain ⟨hb3, hb5⟩ := HFS.out _ hP.mod
          obtain ⟨k0, k1, k2, k3, k4, k5⟩ := code_boxed hb3
          have i1 := hb5.cell 1
          have i2 := hb5.cell 2
          simp only [List.getElem?_toArray, List.getElem?_cons_zero, List.getElem?_cons_succ] at i1 i2
          clear hb3 hb5
          go_wp2_with fail
          all_goals first | exact hP | rfl
        case hst => exact fun h h' e => rfl
      refine And.intro (obm_writes rfl ?op) ?_
      case op =>
        intro ax wx h S hD hE hS hP hk K hK
        have e101 := hk.see 101 rfl rfl
        have e103 := hk.see 103 rfl rfl
        clear hk hD hE
        dsimp only at *
        have HP := Lib.hid hP
        have hPm := hP.mod
        clear hP
        go_wp2_with fail
        refine (HL.out _ HP.out.mod).mono ?_
        rintro e w' ⟨rfl, hm⟩
        exact hK _ _ (HP.out.step hm rfl)
      apply And.intro
      · apply obm_quiet
        case hg => rfl
        case hop =>
          intro ax wx h S hD hE hP hk K hK
          have e104 := hk.see 104 rfl rfl
          try dsimp only at e104
          have d0 := hD 0 (by decide)
          clear hk hD hE
          rw [hP.val 0 d0] at e104
          go_wp2_with fail
          all_goals first | exact hP | rfl
        case hst => exact fun h h' e => by first | rfl | simp only [e 0 (by decide)]
      refine And.intro (obm_skip rfl rfl (fun _ => rfl)) ?_
      refine And.intro (obm_skip rfl rfl (fun _ => rfl)) ?_
      refine And.intro (obm_skip rfl rfl (fun _ => rfl)) ?_
      apply And.intro
      · apply obm_quiet
        case hg => rfl
        case hop =>
          intro ax wx h S hD hE hP hk K hK
          have e105 := hk.see 105 rfl rfl
          have e108 := hk.see 108 rfl rfl
          try dsimp only at e105 e108
          have d0 := hD 0 (by decide)
          clear hk hD hE
          go_wp2_with fail
          all_goals first | exact hP | rfl
        case hst => exact fun h h' e => by first | rfl | simp only [e 0 (by decide)]
      apply And.intro
      · apply obm_quiet
        case hg => rfl
        case hop =>
          intro ax wx h S hD hE hP hk K hK
          have e109 := hk.see 109 rfl rfl
          try dsimp only at e109
          have d0 := hD 0 (by decide)
          clear hk hD hE
          go_wp2_with fail
          all_goals first | exact hP | rfl
        case hst => exact fun h h' e => by first | rfl | simp only [e 0 (by decide)]
      refine And.intro (obm_skip rfl rfl (fun _ => rfl)) ?_
      refine And.intro (obm_skip rfl rfl (fun _ => rfl)) ?_
      refine And.intro (obm_skip rfl rfl (fun _ => rfl)) ?_
      refine And.intro (obm_skip rfl rfl (fun _ => rfl)) ?_
      refine And.intro (obm_skip rfl rfl (fun _ => rfl)) ?_
      refine And.intro (obm_skip rfl rfl (fun _ => rfl)) ?_
      refine And.intro (obm_skip rfl rfl (fun _ => rfl)) ?_
      refine And.intro (obm_skip rfl rfl (fun _ => rfl)) ?_
      refine And.intro (obm_skip rfl rfl (fun _ => rfl)) ?_
      refine And.intro (obm_skip rfl rfl (fun _ => rfl)) ?_
      refine And.intro (obm_skip rfl rfl (fun _ => rfl)) ?_
      apply And.intro
      · apply obm_quiet
        case hg => rfl
        case hop =>
          intro ax wx h S hD hE hP hk K hK
          have e110 := hk.see 110 rfl rfl
          have e121 := hk.see 121 rfl rfl
          try dsimp only at e110 e121
          have d0 := hD 0 (by decide)
          clear hk hD hE
          go_wp2_with fail
          all_goals first | exact hP | rfl
        case hst => exact fun h h' e => by first | rfl | simp only [e 0 (by decide)]
      apply And.intro
      · apply obm_quiet
        case hg => rfl
        case hop =>
          intro ax wx h S hD hE hP hk K hK
          have e122 := hk.see 122 rfl rfl
          try dsimp only at e122
          have d0 := hD 0 (by decide)
          clear hk hD hE
          go_wp2_with fail
          all_goals first | exact hP | rfl
        case hst => exact fun h h' e => by first | rfl | simp only [e 0 (by decide)]
      exact trivial
    intro w2 a2 h S hall hP HF
    have HM2 := Lib.hid hP.mod
    have HF2 := HF.keep [6]
    simp only [pick, look, laid5] at HF2
    refine wp_ret (HQ.out _ _ _ HF2 (fun h => by cases h) (HMW.out _ HM2.out))
  · obtain ⟨j, l, hj, hl, hlk, hlg⟩ := litIs_get hb1
    subst hj
    have htx : l.text.length ≤ 2000000 := HK.out.kt _ (List.mem_of_getElem? hl)
    have hjl : j < c.lits.length := (List.getElem?_eq_some_iff.1 hl).1
    have HLA := Lib.hid (fun wx (h : Mod Nil W wx) => eqLit_at (HK.out.kf wx (HMW.out wx h)).r2 hl)
    have hn2 := (HK.out.kf _ (Mod.refl _ _)).n2
    have hm2 := (HK.out.kf _ (Mod.refl _ _)).m2
    have HLG := Lib.hid hlg
    have HLK := Lib.hid hlk
    obtain ⟨ad, hA2, _⟩ := HLA.out W (Mod.refl _ _)
    have HLB := Lib.hid (show ∀ wx, Mod Nil W wx → ad.block < wx.heap.size ∧ wx.cell? ⟨(ad.add (j * 3)).block, (ad.add (j * 3)).off + 2, none⟩ = some (.string (str l.text)) from fun wx h => by
      obtain ⟨ad', e1, e2, _, _, e5⟩ := HLA.out wx h
      rw [hA2] at e1
      cases e1
      exact ⟨e2, e5⟩)
    have HA2 := Lib.hid hA2
    have HR := Lib.hid (fun w => r6Args_any l.text htx w)
    clear hl hlg hlk hb1 HLA hA2
    rcases h0 : decide (0 ≤ xb) with _ | _
    · skip
      apply sl_flow6 (N := 1) [some 101, some 102, some 103, some 104, some 105, some 106, some 107, some 108, some 109, some 110, some 111, some 112, some 113, some 114, some 115, some 116, some 117, some 118, some 119, some 120, some 121, some 122, some 6] [.quiet [] [0], .quiet [] [0], .quiet [] [0], .writes 0 [] [], .quiet [0] [], .quiet [0] [], .quiet [0] [], .quiet [0] [], .quiet [0] [], .quiet [0] [], .quiet [0] [], .quiet [0] [], .quiet [0] [], .quiet [0] [], .quiet [0] [], .quiet [0] [], .quiet [0] [], .quiet [0] [], .quiet [0] [], .quiet [0] [], .quiet [0] [], .quiet [0] [], .quiet [0] []] (PhK W (fun _ => .bool true)) [_, _, _, (fun h => h 0), _, _, _, _, _, _, (fun _ => undef), (fun _ => undef), (fun _ => undef), (fun _ => undef), (fun _ => undef), (fun _ => undef), (fun _ => undef), (fun _ => undef), (fun _ => undef), (fun _ => undef), (fun _ => undef), _, _] HF
      case hm => kernel_rfl
      case hok => kernel_rfl
      case hfl => rfl
      case h0 => exact (fun h => HW.out ▸ PhK.init h)
      case hobs =>
        apply And.intro
        · apply obm_quiet
          case hg => rfl
          case hop =>
            intro ax wx h S hD hE hP hk K hK
            have e3 := hk.see 3 rfl rfl
            have n0 := hE 0 (by decide)
            clear hk hD hE
            obtain ⟨hb3, hb5⟩ := HFS.out _ hP.mod
            obtain ⟨k0, k1, k2, k3, k4, k5⟩ := code_boxed hb3
            have i1 := hb5.cell 1
            have i2 := hb5.cell 2
            simp only [List.getElem?_toArray, List.getElem?_cons_zero, List.getElem?_cons_succ] at i1 i2
            clear hb3 hb5
            go_wp2_with fail
            all_goals first | exact hP | rfl
          case hst => exact fun h h' e => rfl
        apply And.intro
        · apply obm_quiet
          case hg => rfl
          case hop =>
            intro ax wx h S hD hE hP hk K hK
            have e5 := hk.see 5 rfl rfl
            have n0 := hE 0 (by decide)
            clear hk hD hE
            go_wp2_with fail
            all_goals first | exact hP | rfl
          case hst => exact fun h h' e => rfl
        apply And.intro
        · apply obm_quiet
          case hg => rfl
          case hop =>
            intro ax wx h S hD hE hP hk K hK
            have e102 := hk.see 102 rfl rfl
            have n0 := hE 0 (by decide)
            clear hk hD hE
            obtain ⟨hb3, hb5⟩ := HFS.out _ hP.mod
            obtain ⟨k0, k1, k2, k3, k4, k5⟩ := code_boxed hb3
            have i1 := hb5.cell 1
            have i2 := hb5.cell 2
            simp only [List.getElem?_toArray, List.getElem?_cons_zero, List.getElem?_cons_succ] at i1 i2
            clear hb3 hb5
            go_wp2_with fail
            all_goals first | exact hP | rfl
          case hst => exact fun h h' e => rfl
        refine And.intro (obm_writes rfl ?op) ?_
        case op =>
          intro ax wx h S hD hE hS hP hk K hK
          have e101 := hk.see 101 rfl rfl
          have e103 := hk.see 103 rfl rfl
          clear hk hD hE
          dsimp only at *
          have HP := Lib.hid hP
          have hPm := hP.mod
          clear hP
          go_wp2_with fail
          refine (HL.out _ HP.out.mod).mono ?_
          rintro e w' ⟨rfl, hm⟩
          exact hK _ _ (HP.out.step hm rfl)
        apply And.intro
        · apply obm_quiet
          case hg => rfl
          case hop =>
            intro ax wx h S hD hE hP hk K hK
            have e104 := hk.see 104 rfl rfl
            try dsimp only at e104
            have d0 := hD 0 (by decide)
            clear hk hD hE
            rw [hP.val 0 d0] at e104
            go_wp2_with fail
            all_goals first | exact hP | rfl
          case hst => exact fun h h' e => by first | rfl | simp only [e 0 (by decide)]
        apply And.intro
        · apply obm_want
          case hg => rfl
          case hj => rfl
          case hv => exact fun _ => rfl
          case hop =>
            intro ax wx h S hD hE hP hk K hK
            have e5 := hk.see 5 rfl rfl
            have d0 := hD 0 (by decide)
            clear hk hD hE
            go_wp2_with fail
            all_goals first | exact hP | rfl
          case hst => exact fun h h' e => by first | rfl | simp only [e 0 (by decide)]
        apply And.intro
        · apply obm_want
          case hg => rfl
          case hj => rfl
          case hv => exact fun _ => rfl
          case hop =>
            intro ax wx h S hD hE hP hk K hK
            have e106 := hk.see 106 rfl rfl
            try dsimp only at e106
            have d0 := hD 0 (by decide)
            clear hk hD hE
            obtain ⟨hb3, hb5⟩ := HFS.out _ hP.mod
            obtain ⟨k0, k1, k2, k3, k4, k5⟩ := code_boxed hb3
            have i1 := hb5.cell 1
            have i2 := hb5.cell 2
            simp only [List.getElem?_toArray, List.getElem?_cons_zero, List.getElem?_cons_succ] at i1 i2
            clear hb3 hb5
            go_wp2_with fail
            all_goals first | exact hP | rfl
          case hst => exact fun h h' e => by first | rfl | simp only [e 0 (by decide)]
        apply And.intro
        · apply obm_want
          case hg => rfl
          case hj => rfl
          case hv => exact fun _ => rfl
          case hop =>
            intro ax wx h S hD hE hP hk K hK
            have e107 := hk.see 107 rfl rfl
            try dsimp only at e107
            have d0 := hD 0 (by decide)
            clear hk hD hE
            go_wp2_with fail
            all_goals first | exact hP | rfl
          case hst => exact fun h h' e => by first | rfl | simp only [e 0 (by decide)]
        apply And.intro
        · apply obm_quiet
          case hg => rfl
          case hop =>
            intro ax wx h S hD hE hP hk K hK
            have e105 := hk.see 105 rfl rfl
            have e108 := hk.see 108 rfl rfl
            try dsimp only at e105 e108
            have d0 := hD 0 (by decide)
            clear hk hD hE
            go_wp2_with fail
            all_goals first | exact hP | rfl
          case hst => exact fun h h' e => by first | rfl | simp only [e 0 (by decide)]
        apply And.intro
        · apply obm_quiet
          case hg => rfl
          case hop =>
            intro ax wx h S hD hE hP hk K hK
            have e109 := hk.see 109 rfl rfl
            try dsimp only at e109
            have d0 := hD 0 (by decide)
            clear hk hD hE
            go_wp2_with fail
            all_goals first | exact hP | rfl
          case hst => exact fun h h' e => by first | rfl | simp only [e 0 (by decide)]
        refine And.intro (obm_skip rfl rfl (fun _ => rfl)) ?_
        refine And.intro (obm_skip rfl rfl (fun _ => rfl)) ?_
        refine And.intro (obm_skip rfl rfl (fun _ => rfl)) ?_
        refine And.intro (obm_skip rfl rfl (fun _ => rfl)) ?_
        refine And.intro (obm_skip rfl rfl (fun _ => rfl)) ?_
        refine And.intro (obm_skip rfl rfl (fun _ => rfl)) ?_
        refine And.intro (obm_skip rfl rfl (fun _ => rfl)) ?_
        refine And.intro (obm_skip rfl rfl (fun _ => rfl)) ?_
        refine And.intro (obm_skip rfl rfl (fun _ => rfl)) ?_
        refine And.intro (obm_skip rfl rfl (fun _ => rfl)) ?_
        refine And.intro (obm_skip rfl rfl (fun _ => rfl)) ?_
        apply And.intro
        · apply obm_quiet
          case hg => rfl
          case hop =>
            intro ax wx h S hD hE hP hk K hK
            have e110 := hk.see 110 rfl rfl
            have e121 := hk.see 121 rfl rfl
            try dsimp only at e110 e121
            have d0 := hD 0 (by decide)
            clear hk hD hE
            go_wp2_with fail
            all_goals first | exact hP | rfl
          case hst => exact fun h h' e => by first | rfl | simp only [e 0 (by decide)]
        apply And.intro
        · apply obm_quiet
          case hg => rfl
          case hop =>
            intro ax wx h S hD hE hP hk K hK
            have e122 := hk.see 122 rfl rfl
            try dsimp only at e122
            have d0 := hD 0 (by decide)
            clear hk hD hE
            go_wp2_with fail
            all_goals first | exact hP | rfl
          case hst => exact fun h h' e => by first | rfl | simp only [e 0 (by decide)]
        exact trivial
      intro w2 a2 h S hall hP HF
      have HM2 := Lib.hid hP.mod
      have HF2 := HF.keep [6]
      simp only [pick, look, laid5] at HF2
      refine wp_ret (HQ.out _ _ _ HF2 (fun h => by cases h) (HMW.out _ HM2.out))
    · have H0 := Lib.hid h0
      apply sl_flow6 (N := 2) [some 101, some 102, some 103, some 104, some 105, some 106, some 107, some 108, some 109, some 110, some 111, some 112, some 113, some 114, some 115, some 116, some 117, some 118, some 119, some 120, some 121, some 122, some 6] [.quiet [] [0, 1], .quiet [] [0, 1], .quiet [] [0, 1], .writes 0 [] [1], .quiet [0] [1], .quiet [0] [1], .quiet [0] [1], .quiet [0] [1], .quiet [0] [1], .quiet [0] [1], .quiet [0] [1], .quiet [0] [1], .quiet [0] [1], .quiet [0] [1], .quiet [0] [1], .quiet [0] [1], .quiet [0] [1], .writes 1 [0] [], .quiet [0] [], .quiet [0] [], .quiet [0, 1] [], .quiet [0, 1] [], .quiet [0, 1] []] (PhK W (fun m => if m = 0 then .bool true else .int .i64 (nmArgs l.text))) [_, _, _, (fun h => h 0), _, _, _, _, _, _, _, _, _, _, _, _, _, (fun h => h 1), _, _, _, _, _] HF
      case hm => kernel_rfl
      case hok => kernel_rfl
      case hfl => rfl
      case h0 => exact (fun h => HW.out ▸ PhK.init h)
      case hobs =>
        apply And.intro
        · apply obm_quiet
          case hg => rfl
          case hop =>
            intro ax wx h S hD hE hP hk K hK
            have e3 := hk.see 3 rfl rfl
            have n0 := hE 0 (by decide)
            have n1 := hE 1 (by decide)
            clear hk hD hE
            obtain ⟨hb3, hb5⟩ := HFS.out _ hP.mod
            obtain ⟨k0, k1, k2, k3, k4, k5⟩ := code_boxed hb3
            have i1 := hb5.cell 1
            have i2 := hb5.cell 2
            simp only [List.getElem?_toArray, List.getElem?_cons_zero, List.getElem?_cons_succ] at i1 i2
            clear hb3 hb5
            go_wp2_with fail
            all_goals first | exact hP | rfl
          case hst => exact fun h h' e => rfl
        apply And.intro
        · apply obm_quiet
          case hg => rfl
          case hop =>
            intro ax wx h S hD hE hP hk K hK
            have e5 := hk.see 5 rfl rfl
            have n0 := hE 0 (by decide)
            have n1 := hE 1 (by decide)
            clear hk hD hE
            go_wp2_with fail
            all_goals first | exact hP | rfl
          case hst => exact fun h h' e => rfl
        apply And.intro
        · apply obm_quiet
          case hg => rfl
          case hop =>
            intro ax wx h S hD hE hP hk K hK
            have e102 := hk.see 102 rfl rfl
            have n0 := hE 0 (by decide)
            have n1 := hE 1 (by decide)
            clear hk hD hE
            obtain ⟨hb3, hb5⟩ := HFS.out _ hP.mod
            obtain ⟨k0, k1, k2, k3, k4, k5⟩ := code_boxed hb3
            have i1 := hb5.cell 1
            have i2 := hb5.cell 2
            simp only [List.getElem?_toArray, List.getElem?_cons_zero, List.getElem?_cons_succ] at i1 i2
            clear hb3 hb5
            go_wp2_with fail
            all_goals first | exact hP | rfl
          case hst => exact fun h h' e => rfl
        refine And.intro (obm_writes rfl ?op) ?_
        case op =>
          intro ax wx h S hD hE hS hP hk K hK
          have e101 := hk.see 101 rfl rfl
          have e103 := hk.see 103 rfl rfl
          have n1 := hE 1 (by decide)
          clear hk hD hE
          dsimp only at *
          have HP := Lib.hid hP
          have hPm := hP.mod
          clear hP
          go_wp2_with fail
          refine (HL.out _ HP.out.mod).mono ?_
          rintro e w' ⟨rfl, hm⟩
          exact hK _ _ (HP.out.step hm rfl)
        apply And.intro
        · apply obm_quiet
          case hg => rfl
          case hop =>
            intro ax wx h S hD hE hP hk K hK
            have e104 := hk.see 104 rfl rfl
            try dsimp only at e104
            have d0 := hD 0 (by decide)
            have n1 := hE 1 (by decide)
            clear hk hD hE
            rw [hP.val 0 d0] at e104
            go_wp2_with fail
            all_goals first | exact hP | rfl
          case hst => exact fun h h' e => by first | rfl | simp only [e 0 (by decide)]
        apply And.intro
        · apply obm_want
          case hg => rfl
          case hj => rfl
          case hv => exact fun _ => rfl
          case hop =>
            intro ax wx h S hD hE hP hk K hK
            have e5 := hk.see 5 rfl rfl
            have d0 := hD 0 (by decide)
            have n1 := hE 1 (by decide)
            clear hk hD hE
            go_wp2_with fail
            all_goals first | exact hP | rfl
          case hst => exact fun h h' e => by first | rfl | simp only [e 0 (by decide)]
        apply And.intro
        · apply obm_want
          case hg => rfl
          case hj => rfl
          case hv => exact fun _ => rfl
          case hop =>
            intro ax wx h S hD hE hP hk K hK
            have e106 := hk.see 106 rfl rfl
            try dsimp only at e106
            have d0 := hD 0 (by decide)
            have n1 := hE 1 (by decide)
            clear hk hD hE
            obtain ⟨hb3, hb5⟩ := HFS.out _ hP.mod
            obtain ⟨k0, k1, k2, k3, k4, k5⟩ := code_boxed hb3
            have i1 := hb5.cell 1
            have i2 := hb5.cell 2
            simp only [List.getElem?_toArray, List.getElem?_cons_zero, List.getElem?_cons_succ] at i1 i2
            clear hb3 hb5
            go_wp2_with fail
            all_goals first | exact hP | rfl
          case hst => exact fun h h' e => by first | rfl | simp only [e 0 (by decide)]
        apply And.intro
        · apply obm_want
          case hg => rfl
          case hj => rfl
          case hv => exact fun _ => rfl
          case hop =>
            intro ax wx h S hD hE hP hk K hK
            have e107 := hk.see 107 rfl rfl
            try dsimp only at e107
            have d0 := hD 0 (by decide)
            have n1 := hE 1 (by decide)
            clear hk hD hE
            go_wp2_with fail
            all_goals first | exact hP | rfl
          case hst => exact fun h h' e => by first | rfl | simp only [e 0 (by decide)]
        apply And.intro
        · apply obm_quiet
          case hg => rfl
          case hop =>
            intro ax wx h S hD hE hP hk K hK
            have e105 := hk.see 105 rfl rfl
            have e108 := hk.see 108 rfl rfl
            try dsimp only at e105 e108
            have d0 := hD 0 (by decide)
            have n1 := hE 1 (by decide)
            clear hk hD hE
            go_wp2_with fail
            all_goals first | exact hP | rfl
          case hst => exact fun h h' e => by first | rfl | simp only [e 0 (by decide)]
        apply And.intro
        · apply obm_quiet
          case hg => rfl
          case hop =>
            intro ax wx h S hD hE hP hk K hK
            have e109 := hk.see 109 rfl rfl
            try dsimp only at e109
            have d0 := hD 0 (by decide)
            have n1 := hE 1 (by decide)
            clear hk hD hE
            go_wp2_with fail
            all_goals first | exact hP | rfl
          case hst => exact fun h h' e => by first | rfl | simp only [e 0 (by decide)]
        apply And.intro
        · apply obm_want
          case hg => rfl
          case hj => rfl
          case hv => exact fun _ => rfl
          case hop =>
            intro ax wx h S hD hE hP hk K hK
            have e3 := hk.see 3 rfl rfl
            have d0 := hD 0 (by decide)
            have n1 := hE 1 (by decide)
            clear hk hD hE
            go_wp2_with fail
            all_goals first | exact hP | rfl
          case hst => exact fun h h' e => by first | rfl | simp only [e 0 (by decide)]
        apply And.intro
        · apply obm_want
          case hg => rfl
          case hj => rfl
          case hv => exact fun _ => rfl
          case hop =>
            intro ax wx h S hD hE hP hk K hK
            have e111 := hk.see 111 rfl rfl
            try dsimp only at e111
            have d0 := hD 0 (by decide)
            have n1 := hE 1 (by decide)
            clear hk hD hE
            obtain ⟨hb3, hb5⟩ := HFS.out _ hP.mod
            obtain ⟨k0, k1, k2, k3, k4, k5⟩ := code_boxed hb3
            have i1 := hb5.cell 1
            have i2 := hb5.cell 2
            simp only [List.getElem?_toArray, List.getElem?_cons_zero, List.getElem?_cons_succ] at i1 i2
            clear hb3 hb5
            rw [HA2.out] at k2
            go_wp2_with fail
            all_goals first | exact hP | rfl
          case hst => exact fun h h' e => by first | rfl | simp only [e 0 (by decide)]
        apply And.intro
        · apply obm_want
          case hg => rfl
          case hj => rfl
          case hv => exact fun _ => rfl
          case hop =>
            intro ax wx h S hD hE hP hk K hK
            have e5 := hk.see 5 rfl rfl
            have d0 := hD 0 (by decide)
            have n1 := hE 1 (by decide)
            clear hk hD hE
            go_wp2_with fail
            all_goals first | exact hP | rfl
          case hst => exact fun h h' e => by first | rfl | simp only [e 0 (by decide)]
        apply And.intro
        · apply obm_want
          case hg => rfl
          case hj => rfl
          case hv => exact fun _ => rfl
          case hop =>
            intro ax wx h S hD hE hP hk K hK
            have e113 := hk.see 113 rfl rfl
            try dsimp only at e113
            have d0 := hD 0 (by decide)
            have n1 := hE 1 (by decide)
            clear hk hD hE
            obtain ⟨hb3, hb5⟩ := HFS.out _ hP.mod
            obtain ⟨k0, k1, k2, k3, k4, k5⟩ := code_boxed hb3
            have i1 := hb5.cell 1
            have i2 := hb5.cell 2
            simp only [List.getElem?_toArray, List.getElem?_cons_zero, List.getElem?_cons_succ] at i1 i2
            clear hb3 hb5
            go_wp2_with fail
            all_goals first | exact hP | rfl
          case hst => exact fun h h' e => by first | rfl | simp only [e 0 (by decide)]
        apply And.intro
        · apply obm_want
          case hg => rfl
          case hj => rfl
          case hv => exact fun _ => rfl
          case hop =>
            intro ax wx h S hD hE hP hk K hK
            have e112 := hk.see 112 rfl rfl
            have e114 := hk.see 114 rfl rfl
            try dsimp only at e112 e114
            have d0 := hD 0 (by decide)
            have n1 := hE 1 (by decide)
            clear hk hD hE
            have hjl' : (j : Int) < (c.lits.length : Int) := by omega
            go_wp2_with fail
            all_goals first | exact hP | rfl
          case hst => exact fun h h' e => by first | rfl | simp only [e 0 (by decide)]
        apply And.intro
        · apply obm_want
          case hg => rfl
          case hj => rfl
          case hv => exact fun _ => rfl
          case hop =>
            intro ax wx h S hD hE hP hk K hK
            have e115 := hk.see 115 rfl rfl
            try dsimp only at e115
            have d0 := hD 0 (by decide)
            have n1 := hE 1 (by decide)
            clear hk hD hE
            go_wp2_with fail
            all_goals first | exact hP | rfl
          case hst => exact fun h h' e => by first | rfl | simp only [e 0 (by decide)]
        apply And.intro
        · apply obm_want
          case hg => rfl
          case hj => rfl
          case hv => exact fun _ => rfl
          case hop =>
            intro ax wx h S hD hE hP hk K hK
            have e116 := hk.see 116 rfl rfl
            try dsimp only at e116
            have d0 := hD 0 (by decide)
            have n1 := hE 1 (by decide)
            clear hk hD hE
            obtain ⟨hab, l2⟩ := HLB.out _ hP.mod
            go_wp2_with fail
            all_goals first | exact hP | rfl
          case hst => exact fun h h' e => by first | rfl | simp only [e 0 (by decide)]
        refine And.intro (obm_writes_want rfl rfl (fun _ => rfl) ?op) ?_
        case op =>
          intro ax wx h S hD hE hS hP hk K hK
          have e117 := hk.see 117 rfl rfl
          try dsimp only at e117
          have d0 := hD 0 (by decide)
          clear hk hD hE
          dsimp only at *
          have HP := Lib.hid hP
          clear hP
          go_wp2_with fail
          refine (HR.out _).mono ?_
          rintro e w' ⟨rfl, hm⟩
          exact hK _ _ (HP.out.step hm rfl)
        apply And.intro
        · apply obm_want
          case hg => rfl
          case hj => rfl
          case hv => exact fun _ => rfl
          case hop =>
            intro ax wx h S hD hE hP hk K hK
            have e5 := hk.see 5 rfl rfl
            have d0 := hD 0 (by decide)
            clear hk hD hE
            go_wp2_with fail
            all_goals first | exact hP | rfl
          case hst => exact fun h h' e => by first | rfl | simp only [e 0 (by decide)]
        apply And.intro
        · apply obm_want
          case hg => rfl
          case hj => rfl
          case hv => exact fun _ => rfl
          case hop =>
            intro ax wx h S hD hE hP hk K hK
            have e119 := hk.see 119 rfl rfl
            try dsimp only at e119
            have d0 := hD 0 (by decide)
            clear hk hD hE
            obtain ⟨hb3, hb5⟩ := HFS.out _ hP.mod
            obtain ⟨k0, k1, k2, k3, k4, k5⟩ := code_boxed hb3
            have i1 := hb5.cell 1
            have i2 := hb5.cell 2
            simp only [List.getElem?_toArray, List.getElem?_cons_zero, List.getElem?_cons_succ] at i1 i2
            clear hb3 hb5
            go_wp2_with fail
            all_goals first | exact hP | rfl
          case hst => exact fun h h' e => by first | rfl | simp only [e 0 (by decide)]
        apply And.intro
        · apply obm_want
          case hg => rfl
          case hj => rfl
          case hv => exact fun _ => rfl
          case hop =>
            intro ax wx h S hD hE hP hk K hK
            have e118 := hk.see 118 rfl rfl
            have e120 := hk.see 120 rfl rfl
            try dsimp only at e118 e120
            have d0 := hD 0 (by decide)
            have d1 := hD 1 (by decide)
            clear hk hD hE
            rw [hP.val 1 d1] at e118
            go_wp2_with fail
            all_goals first | exact hP | rfl
          case hst => exact fun h h' e => by first | rfl | simp only [e 0 (by decide)] | simp only [e 1 (by decide)] | simp only [e 0 (by decide), e 1 (by decide)]
        apply And.intro
        · apply obm_quiet
          case hg => rfl
          case hop =>
            intro ax wx h S hD hE hP hk K hK
            have e110 := hk.see 110 rfl rfl
            have e121 := hk.see 121 rfl rfl
            try dsimp only at e110 e121
            have d0 := hD 0 (by decide)
            have d1 := hD 1 (by decide)
            clear hk hD hE
            go_wp2_with fail
            all_goals first | exact hP | rfl
          case hst => exact fun h h' e => by first | rfl | simp only [e 0 (by decide)] | simp only [e 1 (by decide)] | simp only [e 0 (by decide), e 1 (by decide)]
        apply And.intro
        · apply obm_quiet
          case hg => rfl
          case hop =>
            intro ax wx h S hD hE hP hk K hK
            have e122 := hk.see 122 rfl rfl
            try dsimp only at e122
            have d0 := hD 0 (by decide)
            have d1 := hD 1 (by decide)
            clear hk hD hE
            go_wp2_with fail
            all_goals first | exact hP | rfl
          case hst => exact fun h h' e => by first | rfl | simp only [e 0 (by decide)] | simp only [e 1 (by decide)] | simp only [e 0 (by decide), e 1 (by decide)]
        exact trivial
      intro w2 a2 h S hall hP HF
      have HM2 := Lib.hid hP.mod
      have HF2 := HF.keep [6]
      simp only [pick, look, laid5] at HF2
      refine wp_ret (HQ.out _ _ _ HF2 (fun h => by rw [mayF_send h1x]; unfold sendL; rw [HLG.out]; simp only; rw [HLK.out, H0.out]; simpa using h) (HMW.out _ HM2.out))

set_option maxHeartbeats 1600000 in
set_option maxRecDepth 100000 in
theorem rm_vars {Q : Exit → Act → World → Prop} {ac : Act} {w0 w : World} {c : CodeT} {v : CodeV} {ar : List CodeT} {rows : List (List Value)} {A5 : Option Addr} {n5 c5 g3 g5 : Nat} {o xa xb : Int}
    (HF : Sl 159 [(1, .slice A5 n5 c5), (3, .pointer (some ⟨g3, 0, none⟩)), (5, .pointer (some ⟨g5, 0, none⟩))] ac) (hk : KF w0 c v ar rows A5 n5 c5) (hm : Mod Nil w0 w) (hb : Blk w g3 26 (codeArr c v)) (hi : Blk w g5 33 #[.int .i64 o, .int .i64 xa, .int .i64 xb]) (hx : InsT.ok ⟨o, xa, xb⟩) (h1x : o = 6 ∨ o = 7)
    (hQ : ∀ a' w' r, Sl 159 [(6, .bool r)] a' → (r = true → mayF c ar ⟨o, xa, xb⟩ = true) → Mod Nil w0 w' → Q .ret a' w') : (part [1, 0, 1, 0, 1, 1, 1, 1, 1, 0] rmyBody).wp Tryd.prog Q ac w := by
  have HK := Lib.hid hk
  have HM := Lib.hid hm
  have HQ := Lib.hid hQ
  have HB := Lib.hid hb
  have HI := Lib.hid hi
  have HX := Lib.hid hx
  obtain ⟨k0, k1, k2, k3, k4, k5⟩ := code_boxed hb
  have i0 := hi.cell 0
  have i1 := hi.cell 1
  have i2 := hi.cell 2
  simp only [List.getElem?_toArray, List.getElem?_cons_zero, List.getElem?_cons_succ] at i0 i1 i2
  clear hk hm hQ hb hi hx
  conv => arg 2; whnf
  refine wp_seq (wp_region_lit ?_)
  have HV := Lib.hid (rFrame_any (c := c) (v := v) xa w HX.out.2.1 (HK.out.ka.keep HM.out) (Nat.le_trans HK.out.kn (by decide)))
  unfold codeArr at HV
  refine sl_op HF rfl rfl (by decide) ?_; intro K hK; have e3 := HF.see 3 rfl; go_wp2_with fail; clear e3 HF; intro _ HF
  refine sl_move HF rfl rfl (.inl rfl) (by decide) rfl ?_; clear HF; intro _ HF
  refine sl_op HF rfl rfl (by decide) ?_; intro K hK; have e5 := HF.see 5 rfl; go_wp2_with fail; clear e5 HF; intro _ HF
  refine sl_op HF rfl rfl (by decide) ?_; intro K hK; have e51 := HF.see 51 rfl; go_wp2_with fail; clear e51 HF; intro _ HF
  refine sl_op HF rfl rfl (by decide) ?_; intro K hK; have e49 := HF.see 49 rfl; have e50 := HF.see 50 rfl; have e52 := HF.see 52 rfl; go_wp2_with fail
  refine HV.out.mono ?_
  rintro e w3 ⟨⟨fv, rfl, hfv⟩, hm⟩
  have HM3 := Lib.hid (HM.out.trans hm)
  have HI3 := Lib.hid (HI.out.keep hm id)
  clear HB HI k0 k1 k2 k3 k4 k5 i0 i1 i2 HV hm
  have hz : Blk (w3.alloc (.cells codeZ 26)) w3.heap.size 26 codeZ := Blk.new _ _ _
  obtain ⟨z0, z1, z2, z3, z4, z5, f0, f1, f2, f3, f4, f5⟩ := code_facts hz
  unfold codeZ at z0 z1 z2 z3 z4 z5 f0 f1 f2 f3 f4 f5
  generalize hfrm : frmL ar c xa = fo at hfv
  have HFO := Lib.hid hfrm
  clear hfrm hz
  cases hfv
  case no hno =>
    unfold codeZ
    go_wp2_with fail; clear e49 e50 e52 HF; intro _ HF
    refine sl_move HF rfl rfl (.inl rfl) (by decide) rfl ?_; clear HF; intro _ HF
    refine sl_op HF rfl rfl (by decide) ?_; intro K hK; have e48 := HF.see 48 rfl; go_wp2_with fail; clear e48 HF; intro _ HF
    refine sl_op HF rfl rfl (by decide) ?_; intro K hK; have e48 := HF.see 48 rfl; go_wp2_with fail; clear e48 HF; intro _ HF
    refine sl_op HF rfl rfl (by decide) ?_; intro K hK; go_wp2_with fail; clear HF; intro _ HF
    refine sl_op0 HF rfl rfl ?_; intro K hK; have e7 := HF.see 7 rfl; have e54 := HF.see 54 rfl; go_wp2_with fail; clear e7 e54 HF; intro _ HF
    refine sl_move HF rfl rfl (.inr rfl) (by decide) rfl ?_; clear HF; intro _ HF
    clear z0 z1 z2 z3 z4 z5 f0 f1 f2 f3 f4 f5
    refine sl_nil (wp_seq (wp_region_lit ?_))
    have hm4 := (Mod.refl Nil w3).alloc (.cells #[.int .i64 0, .int .i64 0, .slice none 0 0, .slice none 0 0, .slice none 0 0, .string ⟨#[]⟩] 26)
    have HM4 := Lib.hid (HM3.out.trans hm4)
    clear hm4
    change wpList _ _ _ _ _ (w3.alloc (.cells #[.int .i64 0, .int .i64 0, .slice none 0 0, .slice none 0 0, .slice none 0 0, .string ⟨#[]⟩] 26))
    generalize w3.alloc (.cells #[.int .i64 0, .int .i64 0, .slice none 0 0, .slice none 0 0, .slice none 0 0, .string ⟨#[]⟩] 26) = w4 at HM4 ⊢
    generalize w3.heap.size = g7 at HF
    refine sl_move HF rfl rfl (.inl rfl) (by decide) rfl ?_; clear HF; intro _ HF
    refine sl_move HF rfl rfl (.inl rfl) (by decide) rfl ?_; clear HF; intro _ HF
    refine sl_skip HF rfl rfl rfl rfl (by decide) ?_; clear HF; intro _ HF
    refine sl_skip HF rfl rfl rfl rfl (by decide) ?_; clear HF; intro _ HF
    refine sl_skip HF rfl rfl rfl rfl (by decide) ?_; clear HF; intro _ HF
    refine sl_op HF rfl rfl (by decide) ?_; intro K hK; have e57 := HF.see 57 rfl; have e60 := HF.see 60 rfl; go_wp2_with fail; clear e57 e60 HF; intro _ HF
    refine sl_move HF rfl rfl (.inl rfl) (by decide) rfl ?_; clear HF; intro _ HF
    refine sl_skip HF rfl rfl rfl rfl (by decide) ?_; clear HF; intro _ HF
    refine sl_skip HF rfl rfl rfl rfl (by decide) ?_; clear HF; intro _ HF
    refine sl_skip HF rfl rfl rfl rfl (by decide) ?_; clear HF; intro _ HF
    refine sl_skip HF rfl rfl rfl rfl (by decide) ?_; clear HF; intro _ HF
    refine sl_skip HF rfl rfl rfl rfl (by decide) ?_; clear HF; intro _ HF
    refine sl_op HF rfl rfl (by decide) ?_; intro K hK; have e62 := HF.see 62 rfl; have e67 := HF.see 67 rfl; go_wp2_with fail; clear e62 e67 HF; intro _ HF
    refine sl_move HF rfl rfl (.inl rfl) (by decide) rfl ?_; clear HF; intro _ HF
    refine sl_skip HF rfl rfl rfl rfl (by decide) ?_; clear HF; intro _ HF
    refine sl_skip HF rfl rfl rfl rfl (by decide) ?_; clear HF; intro _ HF
    refine sl_skip HF rfl rfl rfl rfl (by decide) ?_; clear HF; intro _ HF
    refine sl_skip HF rfl rfl rfl rfl (by decide) ?_; clear HF; intro _ HF
    refine sl_skip_u HF rfl rfl rfl rfl (by decide) ?_; clear HF; intro _ HF
    refine sl_skip_u HF rfl rfl rfl rfl (by decide) ?_; clear HF; intro _ HF
    refine sl_skip_u HF rfl rfl rfl rfl (by decide) ?_; clear HF; intro _ HF
    refine sl_skip_u HF rfl rfl rfl rfl (by decide) ?_; clear HF; intro _ HF
    refine sl_skip_u HF rfl rfl rfl rfl (by decide) ?_; clear HF; intro _ HF
    refine sl_skip HF rfl rfl rfl rfl (by decide) ?_; clear HF; intro _ HF
    refine sl_op HF rfl rfl (by decide) ?_; intro K hK; have e69 := HF.see 69 rfl; have e79 := HF.see 79 rfl; go_wp2_with fail; clear e69 e79 HF; intro _ HF
    refine sl_move HF rfl rfl (.inr rfl) (by decide) rfl ?_; clear HF; intro _ HF
    have HF2 := HF.keep [6]
    simp only [pick, look] at HF2
    exact sl_nil (wp_ret (HQ.out _ _ _ HF2 (fun h => by cases h) HM4.out))
  case yes f hyes A2 A3 A4 m2 m3 m4 d2 d3 d4 s =>
    go_wp2_with fail; clear e49 e50 e52 HF; intro _ HF
    refine sl_move HF rfl rfl (.inl rfl) (by decide) rfl ?_; clear HF; intro _ HF
    refine sl_op HF rfl rfl (by decide) ?_; intro K hK; have e48 := HF.see 48 rfl; go_wp2_with fail; clear e48 HF; intro _ HF
    refine sl_op HF rfl rfl (by decide) ?_; intro K hK; have e48 := HF.see 48 rfl; go_wp2_with fail; clear e48 HF; intro _ HF
    refine sl_op HF rfl rfl (by decide) ?_; intro K hK; go_wp2_with fail; clear HF; intro _ HF
    refine sl_op0 HF rfl rfl ?_; intro K hK; have e7 := HF.see 7 rfl; have e54 := HF.see 54 rfl; go_wp2_with fail; clear e7 e54 HF; intro _ HF
    refine sl_move HF rfl rfl (.inr rfl) (by decide) rfl ?_; clear HF; intro _ HF
    clear z0 z1 z2 z3 z4 z5 f0 f1 f2 f3 f4 f5
    refine sl_nil (wp_seq (wp_region_lit ?_))
    have hb4 := Blk.new w3 26 #[.int .i64 f.args, .int .i64 f.vars, .slice A2 m2 d2, .slice A3 m3 d3, .slice A4 m4 d4, .string s]
    have hm4 := (Mod.refl Nil w3).alloc (.cells #[.int .i64 f.args, .int .i64 f.vars, .slice A2 m2 d2, .slice A3 m3 d3, .slice A4 m4 d4, .string s] 26)
    have HI4 := Lib.hid (HI3.out.keep hm4 id)
    have HM4 := Lib.hid (HM3.out.trans hm4)
    clear hm4 HI3
    change wpList _ _ _ _ _ (w3.alloc (.cells #[.int .i64 f.args, .int .i64 f.vars, .slice A2 m2 d2, .slice A3 m3 d3, .slice A4 m4 d4, .string s] 26))
    generalize w3.alloc (.cells #[.int .i64 f.args, .int .i64 f.vars, .slice A2 m2 d2, .slice A3 m3 d3, .slice A4 m4 d4, .string s] 26) = w4 at HM4 HI4 hb4 ⊢
    generalize w3.heap.size = g7 at HF hb4
    have y0 := hb4.cell 0
    have y1 := hb4.cell 1
    have i0 := HI4.out.cell 0
    have i2 := HI4.out.cell 2
    simp only [List.getElem?_toArray, List.getElem?_cons_zero, List.getElem?_cons_succ] at i0 i2 y0 y1
    clear hb4
    have HV := Lib.hid (show ∀ set, varL ar c xa xb set = (decide (0 ≤ xb) && decide (xb < f.vars) && (!set || decide (f.args ≤ xb))) from fun set => by
      unfold varL
      rw [HFO.out, hyes])
    rcases h0 : decide (0 ≤ xb) with _ | _
    · skip
      refine sl_move HF rfl rfl (.inl rfl) (by decide) rfl ?_; clear HF; intro _ HF
      refine sl_move HF rfl rfl (.inl rfl) (by decide) rfl ?_; clear HF; intro _ HF
      refine sl_want HF rfl rfl rfl rfl (by decide) ?_; intro K hK; have e5 := HF.see 5 rfl; go_wp2_with fail; clear e5 HF; intro _ HF
      refine sl_want HF rfl rfl rfl rfl (by decide) ?_; intro K hK; have e58 := HF.see 58 rfl; go_wp2_with fail; clear e58 HF; intro _ HF
      refine sl_want HF rfl rfl rfl rfl (by decide) ?_; intro K hK; have e59 := HF.see 59 rfl; go_wp2_with fail; clear e59 HF; intro _ HF
      refine sl_op HF rfl rfl (by decide) ?_; intro K hK; have e57 := HF.see 57 rfl; have e60 := HF.see 60 rfl; go_wp2_with fail; clear e57 e60 HF; intro _ HF
      refine sl_move HF rfl rfl (.inl rfl) (by decide) rfl ?_; clear HF; intro _ HF
      refine sl_skip HF rfl rfl rfl rfl (by decide) ?_; clear HF; intro _ HF
      refine sl_skip HF rfl rfl rfl rfl (by decide) ?_; clear HF; intro _ HF
      refine sl_skip HF rfl rfl rfl rfl (by decide) ?_; clear HF; intro _ HF
      refine sl_skip HF rfl rfl rfl rfl (by decide) ?_; clear HF; intro _ HF
      refine sl_skip HF rfl rfl rfl rfl (by decide) ?_; clear HF; intro _ HF
      refine sl_op HF rfl rfl (by decide) ?_; intro K hK; have e62 := HF.see 62 rfl; have e67 := HF.see 67 rfl; go_wp2_with fail; clear e62 e67 HF; intro _ HF
      refine sl_move HF rfl rfl (.inl rfl) (by decide) rfl ?_; clear HF; intro _ HF
      refine sl_skip HF rfl rfl rfl rfl (by decide) ?_; clear HF; intro _ HF
      refine sl_skip HF rfl rfl rfl rfl (by decide) ?_; clear HF; intro _ HF
      refine sl_skip HF rfl rfl rfl rfl (by decide) ?_; clear HF; intro _ HF
      refine sl_skip HF rfl rfl rfl rfl (by decide) ?_; clear HF; intro _ HF
      refine sl_skip_u HF rfl rfl rfl rfl (by decide) ?_; clear HF; intro _ HF
      refine sl_skip_u HF rfl rfl rfl rfl (by decide) ?_; clear HF; intro _ HF
      refine sl_skip_u HF rfl rfl rfl rfl (by decide) ?_; clear HF; intro _ HF
      refine sl_skip_u HF rfl rfl rfl rfl (by decide) ?_; clear HF; intro _ HF
      refine sl_skip_u HF rfl rfl rfl rfl (by decide) ?_; clear HF; intro _ HF
      refine sl_skip HF rfl rfl rfl rfl (by decide) ?_; clear HF; intro _ HF
      refine sl_op HF rfl rfl (by decide) ?_; intro K hK; have e69 := HF.see 69 rfl; have e79 := HF.see 79 rfl; go_wp2_with fail; clear e69 e79 HF; intro _ HF
      refine sl_move HF rfl rfl (.inr rfl) (by decide) rfl ?_; clear HF; intro _ HF
      have HF2 := HF.keep [6]
      simp only [pick, look] at HF2
      exact sl_nil (wp_ret (HQ.out _ _ _ HF2 (fun h => by cases h) HM4.out))
    rcases h1 : decide (xb < f.vars) with _ | _
    · skip
      refine sl_move HF rfl rfl (.inl rfl) (by decide) rfl ?_; clear HF; intro _ HF
      refine sl_move HF rfl rfl (.inl rfl) (by decide) rfl ?_; clear HF; intro _ HF
      refine sl_want HF rfl rfl rfl rfl (by decide) ?_; intro K hK; have e5 := HF.see 5 rfl; go_wp2_with fail; clear e5 HF; intro _ HF
      refine sl_want HF rfl rfl rfl rfl (by decide) ?_; intro K hK; have e58 := HF.see 58 rfl; go_wp2_with fail; clear e58 HF; intro _ HF
      refine sl_want HF rfl rfl rfl rfl (by decide) ?_; intro K hK; have e59 := HF.see 59 rfl; go_wp2_with fail; clear e59 HF; intro _ HF
      refine sl_op HF rfl rfl (by decide) ?_; intro K hK; have e57 := HF.see 57 rfl; have e60 := HF.see 60 rfl; go_wp2_with fail; clear e57 e60 HF; intro _ HF
      refine sl_move HF rfl rfl (.inl rfl) (by decide) rfl ?_; clear HF; intro _ HF
      refine sl_want HF rfl rfl rfl rfl (by decide) ?_; intro K hK; have e5 := HF.see 5 rfl; go_wp2_with fail; clear e5 HF; intro _ HF
      refine sl_want HF rfl rfl rfl rfl (by decide) ?_; intro K hK; have e63 := HF.see 63 rfl; go_wp2_with fail; clear e63 HF; intro _ HF
      refine sl_want HF rfl rfl rfl rfl (by decide) ?_; intro K hK; have e7 := HF.see 7 rfl; go_wp2_with fail; clear e7 HF; intro _ HF
      refine sl_want HF rfl rfl rfl rfl (by decide) ?_; intro K hK; have e65 := HF.see 65 rfl; go_wp2_with fail; clear e65 HF; intro _ HF
      refine sl_want HF rfl rfl rfl rfl (by decide) ?_; intro K hK; have e64 := HF.see 64 rfl; have e66 := HF.see 66 rfl; go_wp2_with fail; clear e64 e66 HF; intro _ HF
      refine sl_op HF rfl rfl (by decide) ?_; intro K hK; have e62 := HF.see 62 rfl; have e67 := HF.see 67 rfl; go_wp2_with fail; clear e62 e67 HF; intro _ HF
      refine sl_move HF rfl rfl (.inl rfl) (by decide) rfl ?_; clear HF; intro _ HF
      refine sl_skip HF rfl rfl rfl rfl (by decide) ?_; clear HF; intro _ HF
      refine sl_skip HF rfl rfl rfl rfl (by decide) ?_; clear HF; intro _ HF
      refine sl_skip HF rfl rfl rfl rfl (by decide) ?_; clear HF; intro _ HF
      refine sl_skip HF rfl rfl rfl rfl (by decide) ?_; clear HF; intro _ HF
      refine sl_skip_u HF rfl rfl rfl rfl (by decide) ?_; clear HF; intro _ HF
      refine sl_skip_u HF rfl rfl rfl rfl (by decide) ?_; clear HF; intro _ HF
      refine sl_skip_u HF rfl rfl rfl rfl (by decide) ?_; clear HF; intro _ HF
      refine sl_skip_u HF rfl rfl rfl rfl (by decide) ?_; clear HF; intro _ HF
      refine sl_skip_u HF rfl rfl rfl rfl (by decide) ?_; clear HF; intro _ HF
      refine sl_skip HF rfl rfl rfl rfl (by decide) ?_; clear HF; intro _ HF
      refine sl_op HF rfl rfl (by decide) ?_; intro K hK; have e69 := HF.see 69 rfl; have e79 := HF.see 79 rfl; go_wp2_with fail; clear e69 e79 HF; intro _ HF
      refine sl_move HF rfl rfl (.inr rfl) (by decide) rfl ?_; clear HF; intro _ HF
      have HF2 := HF.keep [6]
      simp only [pick, look] at HF2
      exact sl_nil (wp_ret (HQ.out _ _ _ HF2 (fun h => by cases h) HM4.out))
    have HH := Lib.hid (And.intro h0 h1)
    rcases h1x with rfl | rfl
    · skip
      refine sl_move HF rfl rfl (.inl rfl) (by decide) rfl ?_; clear HF; intro _ HF
      refine sl_move HF rfl rfl (.inl rfl) (by decide) rfl ?_; clear HF; intro _ HF
      refine sl_want HF rfl rfl rfl rfl (by decide) ?_; intro K hK; have e5 := HF.see 5 rfl; go_wp2_with fail; clear e5 HF; intro _ HF
      refine sl_want HF rfl rfl rfl rfl (by decide) ?_; intro K hK; have e58 := HF.see 58 rfl; go_wp2_with fail; clear e58 HF; intro _ HF
      refine sl_want HF rfl rfl rfl rfl (by decide) ?_; intro K hK; have e59 := HF.see 59 rfl; go_wp2_with fail; clear e59 HF; intro _ HF
      refine sl_op HF rfl rfl (by decide) ?_; intro K hK; have e57 := HF.see 57 rfl; have e60 := HF.see 60 rfl; go_wp2_with fail; clear e57 e60 HF; intro _ HF
      refine sl_move HF rfl rfl (.inl rfl) (by decide) rfl ?_; clear HF; intro _ HF
      refine sl_want HF rfl rfl rfl rfl (by decide) ?_; intro K hK; have e5 := HF.see 5 rfl; go_wp2_with fail; clear e5 HF; intro _ HF
      refine sl_want HF rfl rfl rfl rfl (by decide) ?_; intro K hK; have e63 := HF.see 63 rfl; go_wp2_with fail; clear e63 HF; intro _ HF
      refine sl_want HF rfl rfl rfl rfl (by decide) ?_; intro K hK; have e7 := HF.see 7 rfl; go_wp2_with fail; clear e7 HF; intro _ HF
      refine sl_want HF rfl rfl rfl rfl (by decide) ?_; intro K hK; have e65 := HF.see 65 rfl; go_wp2_with fail; clear e65 HF; intro _ HF
      refine sl_want HF rfl rfl rfl rfl (by decide) ?_; intro K hK; have e64 := HF.see 64 rfl; have e66 := HF.see 66 rfl; go_wp2_with fail; clear e64 e66 HF; intro _ HF
      refine sl_op HF rfl rfl (by decide) ?_; intro K hK; have e62 := HF.see 62 rfl; have e67 := HF.see 67 rfl; go_wp2_with fail; clear e62 e67 HF; intro _ HF
      refine sl_move HF rfl rfl (.inl rfl) (by decide) rfl ?_; clear HF; intro _ HF
      refine sl_want HF rfl rfl rfl rfl (by decide) ?_; intro K hK; have e5 := HF.see 5 rfl; go_wp2_with fail; clear e5 HF; intro _ HF
      refine sl_want HF rfl rfl rfl rfl (by decide) ?_; intro K hK; have e70 := HF.see 70 rfl; go_wp2_with fail; clear e70 HF; intro _ HF
      refine sl_want HF rfl rfl rfl rfl (by decide) ?_; intro K hK; have e71 := HF.see 71 rfl; go_wp2_with fail; clear e71 HF; intro _ HF
      refine sl_want HF rfl rfl rfl rfl (by decide) ?_; intro K hK; have e72 := HF.see 72 rfl; go_wp2_with fail; clear e72 HF; intro _ HF
      refine sl_skip HF rfl rfl rfl rfl (by decide) ?_; clear HF; intro _ HF
      refine sl_skip HF rfl rfl rfl rfl (by decide) ?_; clear HF; intro _ HF
      refine sl_skip HF rfl rfl rfl rfl (by decide) ?_; clear HF; intro _ HF
      refine sl_skip HF rfl rfl rfl rfl (by decide) ?_; clear HF; intro _ HF
      refine sl_skip HF rfl rfl rfl rfl (by decide) ?_; clear HF; intro _ HF
      refine sl_want HF rfl rfl rfl rfl (by decide) ?_; intro K hK; have e73 := HF.see 73 rfl; have e78 := HF.see 78 rfl; go_wp2_with fail; clear e73 e78 HF; intro _ HF
      refine sl_op HF rfl rfl (by decide) ?_; intro K hK; have e69 := HF.see 69 rfl; have e79 := HF.see 79 rfl; go_wp2_with fail; clear e69 e79 HF; intro _ HF
      refine sl_move HF rfl rfl (.inr rfl) (by decide) rfl ?_; clear HF; intro _ HF
      have HF2 := HF.keep [6]
      simp only [pick, look] at HF2
      exact sl_nil (wp_ret (HQ.out _ _ _ HF2 (fun _ => by unfold mayF; rw [if_pos (.inl rfl)]; simp only; rw [HV.out, HH.out.1, HH.out.2]; rfl) HM4.out))
    · skip
      refine sl_move HF rfl rfl (.inl rfl) (by decide) rfl ?_; clear HF; intro _ HF
      refine sl_move HF rfl rfl (.inl rfl) (by decide) rfl ?_; clear HF; intro _ HF
      refine sl_want HF rfl rfl rfl rfl (by decide) ?_; intro K hK; have e5 := HF.see 5 rfl; go_wp2_with fail; clear e5 HF; intro _ HF
      refine sl_want HF rfl rfl rfl rfl (by decide) ?_; intro K hK; have e58 := HF.see 58 rfl; go_wp2_with fail; clear e58 HF; intro _ HF
      refine sl_want HF rfl rfl rfl rfl (by decide) ?_; intro K hK; have e59 := HF.see 59 rfl; go_wp2_with fail; clear e59 HF; intro _ HF
      refine sl_op HF rfl rfl (by decide) ?_; intro K hK; have e57 := HF.see 57 rfl; have e60 := HF.see 60 rfl; go_wp2_with fail; clear e57 e60 HF; intro _ HF
      refine sl_move HF rfl rfl (.inl rfl) (by decide) rfl ?_; clear HF; intro _ HF
      refine sl_want HF rfl rfl rfl rfl (by decide) ?_; intro K hK; have e5 := HF.see 5 rfl; go_wp2_with fail; clear e5 HF; intro _ HF
      refine sl_want HF rfl rfl rfl rfl (by decide) ?_; intro K hK; have e63 := HF.see 63 rfl; go_wp2_with fail; clear e63 HF; intro _ HF
      refine sl_want HF rfl rfl rfl rfl (by decide) ?_; intro K hK; have e7 := HF.see 7 rfl; go_wp2_with fail; clear e7 HF; intro _ HF
      refine sl_want HF rfl rfl rfl rfl (by decide) ?_; intro K hK; have e65 := HF.see 65 rfl; go_wp2_with fail; clear e65 HF; intro _ HF
      refine sl_want HF rfl rfl rfl rfl (by decide) ?_; intro K hK; have e64 := HF.see 64 rfl; have e66 := HF.see 66 rfl; go_wp2_with fail; clear e64 e66 HF; intro _ HF
      refine sl_op HF rfl rfl (by decide) ?_; intro K hK; have e62 := HF.see 62 rfl; have e67 := HF.see 67 rfl; go_wp2_with fail; clear e62 e67 HF; intro _ HF
      refine sl_move HF rfl rfl (.inl rfl) (by decide) rfl ?_; clear HF; intro _ HF
      refine sl_want HF rfl rfl rfl rfl (by decide) ?_; intro K hK; have e5 := HF.see 5 rfl; go_wp2_with fail; clear e5 HF; intro _ HF
      refine sl_want HF rfl rfl rfl rfl (by decide) ?_; intro K hK; have e70 := HF.see 70 rfl; go_wp2_with fail; clear e70 HF; intro _ HF
      refine sl_want HF rfl rfl rfl rfl (by decide) ?_; intro K hK; have e71 := HF.see 71 rfl; go_wp2_with fail; clear e71 HF; intro _ HF
      refine sl_want HF rfl rfl rfl rfl (by decide) ?_; intro K hK; have e72 := HF.see 72 rfl; go_wp2_with fail; clear e72 HF; intro _ HF
      refine sl_want HF rfl rfl rfl rfl (by decide) ?_; intro K hK; have e5 := HF.see 5 rfl; go_wp2_with fail; clear e5 HF; intro _ HF
      refine sl_want HF rfl rfl rfl rfl (by decide) ?_; intro K hK; have e74 := HF.see 74 rfl; go_wp2_with fail; clear e74 HF; intro _ HF
      refine sl_want HF rfl rfl rfl rfl (by decide) ?_; intro K hK; have e7 := HF.see 7 rfl; go_wp2_with fail; clear e7 HF; intro _ HF
      refine sl_want HF rfl rfl rfl rfl (by decide) ?_; intro K hK; have e76 := HF.see 76 rfl; go_wp2_with fail; clear e76 HF; intro _ HF
      refine sl_want HF rfl rfl rfl rfl (by decide) ?_; intro K hK; have e75 := HF.see 75 rfl; have e77 := HF.see 77 rfl; go_wp2_with fail; clear e75 e77 HF; intro _ HF
      refine sl_want HF rfl rfl rfl rfl (by decide) ?_; intro K hK; have e73 := HF.see 73 rfl; have e78 := HF.see 78 rfl; go_wp2_with fail; clear e73 e78 HF; intro _ HF
      refine sl_op HF rfl rfl (by decide) ?_; intro K hK; have e69 := HF.see 69 rfl; have e79 := HF.see 79 rfl; go_wp2_with fail; clear e69 e79 HF; intro _ HF
      refine sl_move HF rfl rfl (.inr rfl) (by decide) rfl ?_; clear HF; intro _ HF
      have HF2 := HF.keep [6]
      simp only [pick, look] at HF2
      exact sl_nil (wp_ret (HQ.out _ _ _ HF2 (fun h => by unfold mayF; rw [if_pos (.inr rfl)]; simp only; rw [HV.out, HH.out.1, HH.out.2]; simpa using h) HM4.out))

end Go.Proofs.YtefloadjolpgbaaDoor
