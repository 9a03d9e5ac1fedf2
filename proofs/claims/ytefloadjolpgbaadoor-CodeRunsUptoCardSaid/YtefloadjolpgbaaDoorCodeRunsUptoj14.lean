/- Parts of the proof of CodeRunsUpto, joined: May Rgt Rgp RowU. -/
import Derived.Test.YtefloadjolpgbaaDoorCodeRunsUptoj13
import Derived.Test.YtefloadjolpgbaaDoorRows
namespace Go.Proofs.YtefloadjolpgbaaDoor
open Go.RowKit

def sendL (c : CodeT) (x : InsT) : Bool := match litGet c x.a with
  | none => false
  | some l => l.kind == 3 && decide (0 ≤ x.b) && (nmArgs l.text == x.b)
/-- May it stand there. -/
def mayF (c : CodeT) (ar : List CodeT) (x : InsT) : Bool := if x.op = 6 ∨ x.op = 7 then varL ar c x.a x.b (x.op == 7) else mayL c ar.length x

noncomputable def mayBody : Code := (Tryd.f33.body).getD .skip

set_option maxHeartbeats 3200000 in
set_option maxRecDepth 100000 in
theorem may_send {Q : Exit → Act → World → Prop} {a : Act} {w : World} {c : CodeT} {x : InsT} {g2 g3 g5 : Nat} {y : LitT} {t : Bool}
    (HF : Sl 123 [(2, .pointer (some ⟨g2, 0, none⟩)), (3, .pointer (some ⟨g3, 0, none⟩)), (5, .pointer (some ⟨g5, 0, none⟩)), (6, .bool t), (51, .bool true)] a)
    (hi : Blk w g3 33 #[.int .i64 x.op, .int .i64 x.a, .int .i64 x.b]) (hl : Blk w g5 45 (litA y)) (hy : litGet c x.a = if t then some y else none) (hT : t = true → y.text.length ≤ 2000000)
    (hQ : ∀ a' w', Sl 123 [(4, .bool (sendL c x))] a' → Mod Nil w w' → Q .ret a' w') : (part [1, 1, 0, 1, 0, 1, 1, 1, 1, 1, 1, 1] mayBody).wp Tryd.prog Q a w := by
  have HI := Lib.hid hi
  have HL := Lib.hid hl
  have HQ := Lib.hid hQ
  have HT := Lib.hid hT
  have HS := Lib.hid (show sendL c x = (match litGet c x.a with | none => false | some l => l.kind == 3 && decide (0 ≤ x.b) && (nmArgs l.text == x.b)) from rfl)
  rw [hy] at HS
  clear hi hl hQ hy hT
  obtain ⟨W, hW⟩ : ∃ W, W = w.drew := ⟨_, rfl⟩
  have HW := Lib.hid hW
  have HFS := Lib.hid (show ∀ w', Mod Nil W w' → _ from fun w' h => (⟨(hW ▸ HI.out : Blk W g3 _ _).keep h id, (hW ▸ HL.out : Blk W g5 _ _).keep h id⟩ : Blk w' g3 33 #[.int .i64 x.op, .int .i64 x.a, .int .i64 x.b] ∧ Blk w' g5 45 (litA y)))
  have HMW := Lib.hid (show ∀ w', Mod Nil W w' → Mod Nil w w' from fun w' h => (Mod.refl Nil w).drew.trans (hW ▸ h))
  clear hW HI HL
  obtain ⟨xo, xa, xb⟩ := x
  obtain ⟨yk, yn, yt⟩ := y
  unfold litA at HFS
  simp only at HS HFS HT
  conv => arg 2; whnf
  refine wp_cond_true (HF.at 51 rfl) (wp_seq ?_)
  rcases t with _ | _
  · skip
    apply sl_flow6 (N := 0) [some 54, some 55, some 56, some 57, some 58, some 59, some 60, some 61, some 62, some 63, some 64, some 65, some 66, some 67, some 68, some 69, some 70, some 71, some 72, some 4] [.quiet [] [], .quiet [] [], .quiet [] [], .quiet [] [], .quiet [] [], .quiet [] [], .quiet [] [], .quiet [] [], .quiet [] [], .quiet [] [], .quiet [] [], .quiet [] [], .quiet [] [], .quiet [] [], .quiet [] [], .quiet [] [], .quiet [] [], .quiet [] [], .quiet [] [], .quiet [] []] (PhK W (fun _ => undef)) [_, _, (fun _ => undef), (fun _ => undef), (fun _ => undef), _, _, (fun _ => undef), (fun _ => undef), (fun _ => undef), _, _, (fun _ => undef), (fun _ => undef), (fun _ => undef), (fun _ => undef), (fun _ => undef), (fun _ => undef), _, _] HF
    case hm => kernel_rfl
    case hok => kernel_rfl
    case hfl => rfl
    case h0 => exact (fun h => HW.out ▸ PhK.init h)
    case hobs =>
      apply And.intro
      · apply obm_quiet
        case hg => rfl
        case hop =>
          intro ax wx h S hD hE hP hk K hK
          have e6 := hk.see 6 rfl rfl
          clear hk hD hE
          go_wp2_with fail
          all_goals first | exact hP | rfl
        case hst => exact fun h h' e => rfl
      apply And.intro
      · apply obm_quiet
        case hg => rfl
        case hop =>
          intro ax wx h S hD hE hP hk K hK
          have e54 := hk.see 54 rfl rfl
          clear hk hD hE
          go_wp2_with fail
          all_goals first | exact hP | rfl
        case hst => exact fun h h' e => rfl
      refine And.intro (obm_skip rfl rfl (fun _ => rfl)) ?_
      refine And.intro (obm_skip rfl rfl (fun _ => rfl)) ?_
      refine And.intro (obm_skip rfl rfl (fun _ => rfl)) ?_
      apply And.intro
      · apply obm_quiet
        case hg => rfl
        case hop =>
          intro ax wx h S hD hE hP hk K hK
          have e55 := hk.see 55 rfl rfl
          have e58 := hk.see 58 rfl rfl
          clear hk hD hE
          go_wp2_with fail
          all_goals first | exact hP | rfl
        case hst => exact fun h h' e => rfl
      apply And.intro
      · apply obm_quiet
        case hg => rfl
        case hop =>
          intro ax wx h S hD hE hP hk K hK
          have e59 := hk.see 59 rfl rfl
          clear hk hD hE
          go_wp2_with fail
          all_goals first | exact hP | rfl
        case hst => exact fun h h' e => rfl
      refine And.intro (obm_skip rfl rfl (fun _ => rfl)) ?_
      refine And.intro (obm_skip rfl rfl (fun _ => rfl)) ?_
      refine And.intro (obm_skip rfl rfl (fun _ => rfl)) ?_
      apply And.intro
      · apply obm_quiet
        case hg => rfl
        case hop =>
          intro ax wx h S hD hE hP hk K hK
          have e60 := hk.see 60 rfl rfl
          have e63 := hk.see 63 rfl rfl
          clear hk hD hE
          go_wp2_with fail
          all_goals first | exact hP | rfl
        case hst => exact fun h h' e => rfl
      apply And.intro
      · apply obm_quiet
        case hg => rfl
        case hop =>
          intro ax wx h S hD hE hP hk K hK
          have e64 := hk.see 64 rfl rfl
          clear hk hD hE
          go_wp2_with fail
          all_goals first | exact hP | rfl
        case hst => exact fun h h' e => rfl
      refine And.intro (obm_skip rfl rfl (fun _ => rfl)) ?_
      refine And.intro (obm_skip rfl rfl (fun _ => rfl)) ?_
      refine And.intro (obm_skip rfl rfl (fun _ => rfl)) ?_
      refine And.intro (obm_skip rfl rfl (fun _ => rfl)) ?_
      refine And.intro (obm_skip rfl rfl (fun _ => rfl)) ?_
      refine And.intro (obm_skip rfl rfl (fun _ => rfl)) ?_
      apply And.intro
      · apply obm_quiet
        case hg => rfl
        case hop =>
          intro ax wx h S hD hE hP hk K hK
          have e65 := hk.see 65 rfl rfl
          have e71 := hk.see 71 rfl rfl
          clear hk hD hE
          go_wp2_with fail
          all_goals first | exact hP | rfl
        case hst => exact fun h h' e => rfl
      apply And.intro
      · apply obm_quiet
        case hg => rfl
        case hop =>
          intro ax wx h S hD hE hP hk K hK
          have e72 := hk.see 72 rfl rfl
          clear hk hD hE
          go_wp2_with fail
          all_goals first | exact hP | rfl
        case hst => exact fun h h' e => rfl
      exact trivial
    intro w2 a2 h S hall hP HF
    have HM := Lib.hid hP.mod
    have HF2 := HF.keep [4]
    simp only [pick, look, laid5] at HF2
    refine wp_ret (HQ.out _ _ ?_ (HMW.out _ HM.out))
    rw [HS.out]
    exact HF2
  rcases hk : (yk == 3) with _ | _
  · have HR := Lib.hid (show sendL c ⟨xo, xa, xb⟩ = false by rw [HS.out]; simp only [if_true]; rw [hk]; rfl)
    apply sl_flow6 (N := 0) [some 54, some 55, some 56, some 57, some 58, some 59, some 60, some 61, some 62, some 63, some 64, some 65, some 66, some 67, some 68, some 69, some 70, some 71, some 72, some 4] [.quiet [] [], .quiet [] [], .quiet [] [], .quiet [] [], .quiet [] [], .quiet [] [], .quiet [] [], .quiet [] [], .quiet [] [], .quiet [] [], .quiet [] [], .quiet [] [], .quiet [] [], .quiet [] [], .quiet [] [], .quiet [] [], .quiet [] [], .quiet [] [], .quiet [] [], .quiet [] []] (PhK W (fun _ => undef)) [_, _, _, _, _, _, _, (fun _ => undef), (fun _ => undef), (fun _ => undef), _, _, (fun _ => undef), (fun _ => undef), (fun _ => undef), (fun _ => undef), (fun _ => undef), (fun _ => undef), _, _] HF
    case hm => kernel_rfl
    case hok => kernel_rfl
    case hfl => rfl
    case h0 => exact (fun h => HW.out ▸ PhK.init h)
    case hobs =>
      apply And.intro
      · apply obm_quiet
        case hg => rfl
        case hop =>
          intro ax wx h S hD hE hP hk K hK
          have e6 := hk.see 6 rfl rfl
          clear hk hD hE
          go_wp2_with fail
          all_goals first | exact hP | rfl
        case hst => exact fun h h' e => rfl
      apply And.intro
      · apply obm_quiet
        case hg => rfl
        case hop =>
          intro ax wx h S hD hE hP hk K hK
          have e54 := hk.see 54 rfl rfl
          clear hk hD hE
          go_wp2_with fail
          all_goals first | exact hP | rfl
        case hst => exact fun h h' e => rfl
      apply And.intro
      · apply obm_want
        case hg => rfl
        case hj => rfl
        case hv => exact fun _ => rfl
        case hop =>
          intro ax wx h S hD hE hP hk K hK
          have e5 := hk.see 5 rfl rfl
          clear hk hD hE
          go_wp2_with fail
          all_goals first | exact hP | rfl
        case hst => exact fun h h' e => rfl
      apply And.intro
      · apply obm_want
        case hg => rfl
        case hj => rfl
        case hv => exact fun _ => rfl
        case hop =>
          intro ax wx h S hD hE hP hk K hK
          have e56 := hk.see 56 rfl rfl
          clear hk hD hE
          obtain ⟨hb3, hb5⟩ := HFS.out _ hP.mod
          have l0 := hb5.cell 0
          simp only [List.getElem?_toArray, List.getElem?_cons_zero, List.getElem?_cons_succ] at l0
          clear hb3 hb5
          go_wp2_with fail
          all_goals first | exact hP | rfl
        case hst => exact fun h h' e => rfl
      apply And.intro
      · apply obm_want
        case hg => rfl
        case hj => rfl
        case hv => exact fun _ => rfl
        case hop =>
          intro ax wx h S hD hE hP hk K hK
          have e57 := hk.see 57 rfl rfl
          clear hk hD hE
          go_wp2_with fail
          all_goals first | exact hP | rfl
        case hst => exact fun h h' e => rfl
      apply And.intro
      · apply obm_quiet
        case hg => rfl
        case hop =>
          intro ax wx h S hD hE hP hk K hK
          have e55 := hk.see 55 rfl rfl
          have e58 := hk.see 58 rfl rfl
          clear hk hD hE
          go_wp2_with fail
          all_goals first | exact hP | rfl
        case hst => exact fun h h' e => rfl
      apply And.intro
      · apply obm_quiet
        case hg => rfl
        case hop =>
          intro ax wx h S hD hE hP hk K hK
          have e59 := hk.see 59 rfl rfl
          clear hk hD hE
          go_wp2_with fail
          all_goals first | exact hP | rfl
        case hst => exact fun h h' e => rfl
      refine And.intro (obm_skip rfl rfl (fun _ => rfl)) ?_
      refine And.intro (obm_skip rfl rfl (fun _ => rfl)) ?_
      refine And.intro (obm_skip rfl rfl (fun _ => rfl)) ?_
      apply And.intro
      · apply obm_quiet
        case hg => rfl
        case hop =>
          intro ax wx h S hD hE hP hk K hK
          have e60 := hk.see 60 rfl rfl
          have e63 := hk.see 63 rfl rfl
          clear hk hD hE
          go_wp2_with fail
          all_goals first | exact hP | rfl
        case hst => exact fun h h' e => rfl
      apply And.intro
      · apply obm_quiet
        case hg => rfl
        case hop =>
          intro ax wx h S hD hE hP hk K hK
          have e64 := hk.see 64 rfl rfl
          clear hk hD hE
          go_wp2_with fail
          all_goals first | exact hP | rfl
        case hst => exact fun h h' e => rfl
      refine And.intro (obm_skip rfl rfl (fun _ => rfl)) ?_
      refine And.intro (obm_skip rfl rfl (fun _ => rfl)) ?_
      refine And.intro (obm_skip rfl rfl (fun _ => rfl)) ?_
      refine And.intro (obm_skip rfl rfl (fun _ => rfl)) ?_
      refine And.intro (obm_skip rfl rfl (fun _ => rfl)) ?_
      refine And.intro (obm_skip rfl rfl (fun _ => rfl)) ?_
      apply And.intro
      · apply obm_quiet
        case hg => rfl
        case hop =>
          intro ax wx h S hD hE hP hk K hK
          have e65 := hk.see 65 rfl rfl
          have e71 := hk.see 71 rfl rfl
          clear hk hD hE
          go_wp2_with fail
          all_goals first | exact hP | rfl
        case hst => exact fun h h' e => rfl
      apply And.intro
      · apply obm_quiet
        case hg => rfl
        case hop =>
          intro ax wx h S hD hE hP hk K hK
          have e72 := hk.see 72 rfl rfl
          clear hk hD hE
          go_wp2_with fail
          all_goals first | exact hP | rfl
        case hst => exact fun h h' e => rfl
      exact trivial
    intro w2 a2 h S hall hP HF
    have HM := Lib.hid hP.mod
    have HF2 := HF.keep [4]
    simp only [pick, look, laid5] at HF2
    refine wp_ret (HQ.out _ _ ?_ (HMW.out _ HM.out))
    rw [HR.out]
    exact HF2
  rcases hb0 : decide (0 ≤ xb) with _ | _
  · have HR := Lib.hid (show sendL c ⟨xo, xa, xb⟩ = false by rw [HS.out]; simp only [if_true]; rw [hk, hb0]; rfl)
    apply sl_flow6 (N := 0) [some 54, some 55, some 56, some 57, some 58, some 59, some 60, some 61, some 62, some 63, some 64, some 65, some 66, some 67, some 68, some 69, some 70, some 71, some 72, some 4] [.quiet [] [], .quiet [] [], .quiet [] [], .quiet [] [], .quiet [] [], .quiet [] [], .quiet [] [], .quiet [] [], .quiet [] [], .quiet [] [], .quiet [] [], .quiet [] [], .quiet [] [], .quiet [] [], .quiet [] [], .quiet [] [], .quiet [] [], .quiet [] [], .quiet [] [], .quiet [] []] (PhK W (fun _ => undef)) [_, _, _, _, _, _, _, _, _, _, _, _, (fun _ => undef), (fun _ => undef), (fun _ => undef), (fun _ => undef), (fun _ => undef), (fun _ => undef), _, _] HF
    case hm => kernel_rfl
    case hok => kernel_rfl
    case hfl => rfl
    case h0 => exact (fun h => HW.out ▸ PhK.init h)
    case hobs =>
      apply And.intro
      · apply obm_quiet
        case hg => rfl
        case hop =>
          intro ax wx h S hD hE hP hk K hK
          have e6 := hk.see 6 rfl rfl
          clear hk hD hE
          go_wp2_with fail
          all_goals first | exact hP | rfl
        case hst => exact fun h h' e => rfl
      apply And.intro
      · apply obm_quiet
        case hg => rfl
        case hop =>
          intro ax wx h S hD hE hP hk K hK
          have e54 := hk.see 54 rfl rfl
          clear hk hD hE
          go_wp2_with fail
          all_goals first | exact hP | rfl
        case hst => exact fun h h' e => rfl
      apply And.intro
      · apply obm_want
        case hg => rfl
        case hj => rfl
        case hv => exact fun _ => rfl
        case hop =>
          intro ax wx h S hD hE hP hk K hK
          have e5 := hk.see 5 rfl rfl
          clear hk hD hE
          go_wp2_with fail
          all_goals first | exact hP | rfl
        case hst => exact fun h h' e => rfl
      apply And.intro
      · apply obm_want
        case hg => rfl
        case hj => rfl
        case hv => exact fun _ => rfl
        case hop =>
          intro ax wx h S hD hE hP hk K hK
          have e56 := hk.see 56 rfl rfl
          clear hk hD hE
          obtain ⟨hb3, hb5⟩ := HFS.out _ hP.mod
          have l0 := hb5.cell 0
          have i2 := hb3.cell 2
          simp only [List.getElem?_toArray, List.getElem?_cons_zero, List.getElem?_cons_succ] at l0 i2
          clear hb3 hb5
          go_wp2_with fail
          all_goals first | exact hP | rfl
        case hst => exact fun h h' e => rfl
      apply And.intro
      · apply obm_want
        case hg => rfl
        case hj => rfl
        case hv => exact fun _ => rfl
        case hop =>
          intro ax wx h S hD hE hP hk K hK
          have e57 := hk.see 57 rfl rfl
          clear hk hD hE
          go_wp2_with fail
          all_goals first | exact hP | rfl
        case hst => exact fun h h' e => rfl
      apply And.intro
      · apply obm_quiet
        case hg => rfl
        case hop =>
          intro ax wx h S hD hE hP hk K hK
          have e55 := hk.see 55 rfl rfl
          have e58 := hk.see 58 rfl rfl
          clear hk hD hE
          go_wp2_with fail
          all_goals first | exact hP | rfl
        case hst => exact fun h h' e => rfl
      apply And.intro
      · apply obm_quiet
        case hg => rfl
        case hop =>
          intro ax wx h S hD hE hP hk K hK
          have e59 := hk.see 59 rfl rfl
          clear hk hD hE
          go_wp2_with fail
          all_goals first | exact hP | rfl
        case hst => exact fun h h' e => rfl
      apply And.intro
      · apply obm_want
        case hg => rfl
        case hj => rfl
        case hv => exact fun _ => rfl
        case hop =>
          intro ax wx h S hD hE hP hk K hK
          have e3 := hk.see 3 rfl rfl
          clear hk hD hE
          go_wp2_with fail
          all_goals first | exact hP | rfl
        case hst => exact fun h h' e => rfl
      apply And.intro
      · apply obm_want
        case hg => rfl
        case hj => rfl
        case hv => exact fun _ => rfl
        case hop =>
          intro ax wx h S hD hE hP hk K hK
          have e61 := hk.see 61 rfl rfl
          clear hk hD hE
          obtain ⟨hb3, hb5⟩ := HFS.out _ hP.mod
          have l0 := hb5.cell 0
          have i2 := hb3.cell 2
          simp only [List.getElem?_toArray, List.getElem?_cons_zero, List.getElem?_cons_succ] at l0 i2
          clear hb3 hb5
          go_wp2_with fail
          all_goals first | exact hP | rfl
        case hst => exact fun h h' e => rfl
      apply And.intro
      · apply obm_want
        case hg => rfl
        case hj => rfl
        case hv => exact fun _ => rfl
        case hop =>
          intro ax wx h S hD hE hP hk K hK
          have e62 := hk.see 62 rfl rfl
          clear hk hD hE
          go_wp2_with fail
          all_goals first | exact hP | rfl
        case hst => exact fun h h' e => rfl
      apply And.intro
      · apply obm_quiet
        case hg => rfl
        case hop =>
          intro ax wx h S hD hE hP hk K hK
          have e60 := hk.see 60 rfl rfl
          have e63 := hk.see 63 rfl rfl
          clear hk hD hE
          go_wp2_with fail
          all_goals first | exact hP | rfl
        case hst => exact fun h h' e => rfl
      apply And.intro
      · apply obm_quiet
        case hg => rfl
        case hop =>
          intro ax wx h S hD hE hP hk K hK
          have e64 := hk.see 64 rfl rfl
          clear hk hD hE
          go_wp2_with fail
          all_goals first | exact hP | rfl
        case hst => exact fun h h' e => rfl
      refine And.intro (obm_skip rfl rfl (fun _ => rfl)) ?_
      refine And.intro (obm_skip rfl rfl (fun _ => rfl)) ?_
      refine And.intro (obm_skip rfl rfl (fun _ => rfl)) ?_
      refine And.intro (obm_skip rfl rfl (fun _ => rfl)) ?_
      refine And.intro (obm_skip rfl rfl (fun _ => rfl)) ?_
      refine And.intro (obm_skip rfl rfl (fun _ => rfl)) ?_
      apply And.intro
      · apply obm_quiet
        case hg => rfl
        case hop =>
          intro ax wx h S hD hE hP hk K hK
          have e65 := hk.see 65 rfl rfl
          have e71 := hk.see 71 rfl rfl
          clear hk hD hE
          go_wp2_with fail
          all_goals first | exact hP | rfl
        case hst => exact fun h h' e => rfl
      apply And.intro
      · apply obm_quiet
        case hg => rfl
        case hop =>
          intro ax wx h S hD hE hP hk K hK
          have e72 := hk.see 72 rfl rfl
          clear hk hD hE
          go_wp2_with fail
          all_goals first | exact hP | rfl
        case hst => exact fun h h' e => rfl
      exact trivial
    intro w2 a2 h S hall hP HF
    have HM := Lib.hid hP.mod
    have HF2 := HF.keep [4]
    simp only [pick, look, laid5] at HF2
    refine wp_ret (HQ.out _ _ ?_ (HMW.out _ HM.out))
    rw [HR.out]
    exact HF2
  · have HR := Lib.hid (show sendL c ⟨xo, xa, xb⟩ = (nmArgs yt == xb) by rw [HS.out]; simp only [if_true]; rw [hk, hb0]; rfl)
    have HC := Lib.hid (fun w => nmArgs_any yt (by have := HT.out rfl; omega) w)
    apply sl_flow6 (N := 1) [some 54, some 55, some 56, some 57, some 58, some 59, some 60, some 61, some 62, some 63, some 64, some 65, some 66, some 67, some 68, some 69, some 70, some 71, some 72, some 4] [.quiet [] [0], .quiet [] [0], .quiet [] [0], .quiet [] [0], .quiet [] [0], .quiet [] [0], .quiet [] [0], .quiet [] [0], .quiet [] [0], .quiet [] [0], .quiet [] [0], .quiet [] [0], .quiet [] [0], .quiet [] [0], .writes 0 [] [], .quiet [] [], .quiet [] [], .quiet [0] [], .quiet [0] [], .quiet [0] []] (PhK W (fun _ => .int .i64 (nmArgs yt))) [_, _, _, _, _, _, _, _, _, _, _, _, _, _, (fun h => h 0), _, _, _, _, _] HF
    case hm => kernel_rfl
    case hok => kernel_rfl
    case hfl => rfl
    case h0 => exact (fun h => HW.out ▸ PhK.init h)
    case hobs =>
      apply And.intro
      · apply obm_quiet
        case hg => rfl
        case hop =>
          intro ax wx h S hD hE hP hk K hK
          have e6 := hk.see 6 rfl rfl
          have n0 := hE 0 (by decide)
          clear hk hD hE
          go_wp2_with fail
          all_goals first | exact hP | rfl
        case hst => exact fun h h' e => rfl
      apply And.intro
      · apply obm_quiet
        case hg => rfl
        case hop =>
          intro ax wx h S hD hE hP hk K hK
          have e54 := hk.see 54 rfl rfl
          have n0 := hE 0 (by decide)
          clear hk hD hE
          go_wp2_with fail
          all_goals first | exact hP | rfl
        case hst => exact fun h h' e => rfl
      apply And.intro
      · apply obm_want
        case hg => rfl
        case hj => rfl
        case hv => exact fun _ => rfl
        case hop =>
          intro ax wx h S hD hE hP hk K hK
          have e5 := hk.see 5 rfl rfl
          have n0 := hE 0 (by decide)
          clear hk hD hE
          go_wp2_with fail
          all_goals first | exact hP | rfl
        case hst => exact fun h h' e => rfl
      apply And.intro
      · apply obm_want
        case hg => rfl
        case hj => rfl
        case hv => exact fun _ => rfl
        case hop =>
          intro ax wx h S hD hE hP hk K hK
          have e56 := hk.see 56 rfl rfl
          have n0 := hE 0 (by decide)
          clear hk hD hE
          obtain ⟨hb3, hb5⟩ := HFS.out _ hP.mod
          have l0 := hb5.cell 0
          have l2 := hb5.cell 2
          have i2 := hb3.cell 2
          simp only [List.getElem?_toArray, List.getElem?_cons_zero, List.getElem?_cons_succ] at l0 l2 i2
          clear hb3 hb5
          go_wp2_with fail
          all_goals first | exact hP | rfl
        case hst => exact fun h h' e => rfl
      apply And.intro
      · apply obm_want
        case hg => rfl
        case hj => rfl
        case hv => exact fun _ => rfl
        case hop =>
          intro ax wx h S hD hE hP hk K hK
          have e57 := hk.see 57 rfl rfl
          have n0 := hE 0 (by decide)
          clear hk hD hE
          go_wp2_with fail
          all_goals first | exact hP | rfl
        case hst => exact fun h h' e => rfl
      apply And.intro
      · apply obm_quiet
        case hg => rfl
        case hop =>
          intro ax wx h S hD hE hP hk K hK
          have e55 := hk.see 55 rfl rfl
          have e58 := hk.see 58 rfl rfl
          have n0 := hE 0 (by decide)
          clear hk hD hE
          go_wp2_with fail
          all_goals first | exact hP | rfl
        case hst => exact fun h h' e => rfl
      apply And.intro
      · apply obm_quiet
        case hg => rfl
        case hop =>
          intro ax wx h S hD hE hP hk K hK
          have e59 := hk.see 59 rfl rfl
          have n0 := hE 0 (by decide)
          clear hk hD hE
          go_wp2_with fail
          all_goals first | exact hP | rfl
        case hst => exact fun h h' e => rfl
      apply And.intro
      · apply obm_want
        case hg => rfl
        case hj => rfl
        case hv => exact fun _ => rfl
        case hop =>
          intro ax wx h S hD hE hP hk K hK
          have e3 := hk.see 3 rfl rfl
          have n0 := hE 0 (by decide)
          clear hk hD hE
          go_wp2_with fail
          all_goals first | exact hP | rfl
        case hst => exact fun h h' e => rfl
      apply And.intro
      · apply obm_want
        case hg => rfl
        case hj => rfl
        case hv => exact fun _ => rfl
        case hop =>
          intro ax wx h S hD hE hP hk K hK
          have e61 := hk.see 61 rfl rfl
          have n0 := hE 0 (by decide)
          clear hk hD hE
          obtain ⟨hb3, hb5⟩ := HFS.out _ hP.mod
          have l0 := hb5.cell 0
          have l2 := hb5.cell 2
          have i2 := hb3.cell 2
          simp only [List.getElem?_toArray, List.getElem?_cons_zero, List.getElem?_cons_succ] at l0 l2 i2
          clear hb3 hb5
          go_wp2_with fail
          all_goals first | exact hP | rfl
        case hst => exact fun h h' e => rfl
      apply And.intro
      · apply obm_want
        case hg => rfl
        case hj => rfl
        case hv => exact fun _ => rfl
        case hop =>
          intro ax wx h S hD hE hP hk K hK
          have e62 := hk.see 62 rfl rfl
          have n0 := hE 0 (by decide)
          clear hk hD hE
          go_wp2_with fail
          all_goals first | exact hP | rfl
        case hst => exact fun h h' e => rfl
      apply And.intro
      · apply obm_quiet
        case hg => rfl
        case hop =>
          intro ax wx h S hD hE hP hk K hK
          have e60 := hk.see 60 rfl rfl
          have e63 := hk.see 63 rfl rfl
          have n0 := hE 0 (by decide)
          clear hk hD hE
          go_wp2_with fail
          all_goals first | exact hP | rfl
        case hst => exact fun h h' e => rfl
      apply And.intro
      · apply obm_quiet
        case hg => rfl
        case hop =>
          intro ax wx h S hD hE hP hk K hK
          have e64 := hk.see 64 rfl rfl
          have n0 := hE 0 (by decide)
          clear hk hD hE
          go_wp2_with fail
          all_goals first | exact hP | rfl
        case hst => exact fun h h' e => rfl
      apply And.intro
      · apply obm_want
        case hg => rfl
        case hj => rfl
        case hv => exact fun _ => rfl
        case hop =>
          intro ax wx h S hD hE hP hk K hK
          have e5 := hk.see 5 rfl rfl
          have n0 := hE 0 (by decide)
          clear hk hD hE
          go_wp2_with fail
          all_goals first | exact hP | rfl
        case hst => exact fun h h' e => rfl
      apply And.intro
      · apply obm_want
        case hg => rfl
        case hj => rfl
        case hv => exact fun _ => rfl
        case hop =>
          intro ax wx h S hD hE hP hk K hK
          have e66 := hk.see 66 rfl rfl
          have n0 := hE 0 (by decide)
          clear hk hD hE
          obtain ⟨hb3, hb5⟩ := HFS.out _ hP.mod
          have l0 := hb5.cell 0
          have l2 := hb5.cell 2
          have i2 := hb3.cell 2
          simp only [List.getElem?_toArray, List.getElem?_cons_zero, List.getElem?_cons_succ] at l0 l2 i2
          clear hb3 hb5
          go_wp2_with fail
          all_goals first | exact hP | rfl
        case hst => exact fun h h' e => rfl
      refine And.intro (obm_writes_want rfl rfl (fun _ => rfl) ?op) ?_
      case op =>
        intro ax wx h S hD hE hS hP hk K hK
        have e67 := hk.see 67 rfl rfl
        clear hk hD hE
        dsimp only at e67
        have HP := Lib.hid hP
        clear hP
        go_wp2_with fail
        refine (HC.out _).mono ?_
        rintro e w' ⟨rfl, hm⟩
        exact hK _ _ (HP.out.step hm rfl)
      apply And.intro
      · apply obm_want
        case hg => rfl
        case hj => rfl
        case hv => exact fun _ => rfl
        case hop =>
          intro ax wx h S hD hE hP hk K hK
          have e3 := hk.see 3 rfl rfl
          clear hk hD hE
          go_wp2_with fail
          all_goals first | exact hP | rfl
        case hst => exact fun h h' e => rfl
      apply And.intro
      · apply obm_want
        case hg => rfl
        case hj => rfl
        case hv => exact fun _ => rfl
        case hop =>
          intro ax wx h S hD hE hP hk K hK
          have e69 := hk.see 69 rfl rfl
          clear hk hD hE
          obtain ⟨hb3, hb5⟩ := HFS.out _ hP.mod
          have l0 := hb5.cell 0
          have l2 := hb5.cell 2
          have i2 := hb3.cell 2
          simp only [List.getElem?_toArray, List.getElem?_cons_zero, List.getElem?_cons_succ] at l0 l2 i2
          clear hb3 hb5
          go_wp2_with fail
          all_goals first | exact hP | rfl
        case hst => exact fun h h' e => rfl
      apply And.intro
      · apply obm_want
        case hg => rfl
        case hj => rfl
        case hv => exact fun _ => rfl
        case hop =>
          intro ax wx h S hD hE hP hk K hK
          have e68 := hk.see 68 rfl rfl
          have e70 := hk.see 70 rfl rfl
          try dsimp only at e68
          have d0 := hD 0 (by decide)
          clear hk hD hE
          rw [hP.val 0 d0] at e68
          go_wp2_with fail
          all_goals first | exact hP | rfl
        case hst => exact fun h h' e => by first | rfl | simp only [e 0 (by decide)]
      apply And.intro
      · apply obm_quiet
        case hg => rfl
        case hop =>
          intro ax wx h S hD hE hP hk K hK
          have e65 := hk.see 65 rfl rfl
          have e71 := hk.see 71 rfl rfl
          try dsimp only at e71
          have d0 := hD 0 (by decide)
          clear hk hD hE
          go_wp2_with fail
          all_goals first | exact hP | rfl
        case hst => exact fun h h' e => by first | rfl | simp only [e 0 (by decide)]
      apply And.intro
      · apply obm_quiet
        case hg => rfl
        case hop =>
          intro ax wx h S hD hE hP hk K hK
          have e72 := hk.see 72 rfl rfl
          try dsimp only at e72
          have d0 := hD 0 (by decide)
          clear hk hD hE
          go_wp2_with fail
          all_goals first | exact hP | rfl
        case hst => exact fun h h' e => by first | rfl | simp only [e 0 (by decide)]
      exact trivial
    intro w2 a2 h S hall hP HF
    have HM := Lib.hid hP.mod
    have HF2 := HF.keep [4]
    simp only [pick, look, laid5] at HF2
    refine wp_ret (HQ.out _ _ ?_ (HMW.out _ HM.out))
    rw [HR.out]
    exact HF2

theorem mayF_plain {c : CodeT} {ar : List CodeT} {x : InsT} (h6 : x.op ≠ 6) (h7 : x.op ≠ 7) : mayF c ar x = mayL c ar.length x := if_neg (by omega)
theorem mayF_send {c : CodeT} {ar : List CodeT} {x : InsT} (h : x.op = 10 ∨ x.op = 11) : mayF c ar x = sendL c x := by
  rw [mayF_plain (by omega) (by omega)]
  unfold mayL sendL
  rw [if_neg (by omega), if_neg (by omega), if_neg (by omega), if_pos (by omega)]
  rcases litGet c x.a with _ | l <;> rfl

set_option maxHeartbeats 3200000 in
set_option maxRecDepth 100000 in
theorem kMayF_any {c : CodeT} {v : CodeV} {ar : List CodeT} {rows : List (List Value)} {A5 : Option Addr} {n5 c5 : Nat} (x : InsT) (w : World) (hf : ∀ w', Mod Nil w w' → CodeF w' c v) (hc : ∀ w', Mod Nil w w' → CodeC w' c (codeArr c v).toList)
    (hA : AroF w ar rows A5 n5 c5) (hn : n5 ≤ 20) (hT : ∀ l ∈ c.lits, l.text.length ≤ 2000000) (hx : x.ok) :
    Calls Tryd.prog 33 #[.agg (kArr c v A5 n5 c5), .agg #[.int .i64 x.op, .int .i64 x.a, .int .i64 x.b]] w fun e w' => e = .returned (.bool (mayF c ar x)) ∧ Mod Nil w w' := by
  by_cases hp : plainOp x.op
  · rw [mayF_plain hp.1 hp.2.1, ← hA.cnt]
    exact kMay_any c v A5 n5 c5 x w hf hT hp.1 hp.2.1 hp.2.2.1 hp.2.2.2
  have hcs : x.op = 10 ∨ x.op = 11 ∨ x.op = 6 ∨ x.op = 7 := by
    unfold plainOp at hp
    omega
  clear hp
  have hbk : Blk (w.alloc (.cells (kArr c v A5 n5 c5) 41)) w.heap.size 41 (kArr c v A5 n5 c5) := Blk.new _ _ _
  have hm1 := (Mod.refl Nil w).alloc (.cells (kArr c v A5 n5 c5) 41)
  have hbi : Blk ((w.alloc (.cells (kArr c v A5 n5 c5) 41)).alloc (.cells #[.int .i64 x.op, .int .i64 x.a, .int .i64 x.b] 33)) (w.alloc (.cells (kArr c v A5 n5 c5) 41)).heap.size 33 #[.int .i64 x.op, .int .i64 x.a, .int .i64 x.b] := Blk.new _ _ _
  have hm2 := hm1.alloc (.cells #[.int .i64 x.op, .int .i64 x.a, .int .i64 x.b] 33)
  have hbk2 := hbk.keep ((Mod.refl Nil (w.alloc (.cells (kArr c v A5 n5 c5) 41))).alloc (.cells #[.int .i64 x.op, .int .i64 x.a, .int .i64 x.b] 33)) id
  obtain ⟨g3, hg3⟩ : ∃ g3, g3 = (w.alloc (.cells (kArr c v A5 n5 c5) 41)).heap.size := ⟨_, rfl⟩
  have hg3' : w.heap.size + 1 = g3 := by rw [hg3]; simp
  rw [← hg3] at hbi
  have HB := Lib.hid hbk2
  have HI := Lib.hid hbi
  have HM := Lib.hid hm2
  have HC := Lib.hid hc
  have HA := Lib.hid hA
  have HT := Lib.hid hT
  have HX := Lib.hid hx
  have HL := Lib.hid (kLit_any c v A5 n5 c5 x.a _ (fun w' h => hf w' (hm2.trans h)))
  clear hbk hm1 hbi hm2 hbk2 hf hc hA hT hx hg3
  obtain ⟨o, xa, xb⟩ := x
  simp only at hcs
  refine sl_enter (n := 123) (fn := Tryd.f33) (c := mayBody) Tryd.func33 rfl rfl (by simp) fun ac HF => ?_
  conv => arg 2; whnf
  refine wp_seq (wp_region_lit ?_)
  refine sl_op HF rfl rfl (by decide) ?_; intro K hK; have e0 := HF.see 0 rfl; go_wp2_with fail; clear e0 HF; intro _ HF
  refine sl_op HF rfl rfl (by decide) ?_; intro K hK; have e1 := HF.see 1 rfl; go_wp2_with fail; clear e1 HF; intro _ HF
  refine sl_const HF rfl rfl (.inr rfl) (by decide) ?_; clear HF; intro _ HF
  generalize hW2 : (w.alloc (.cells (kArr c v A5 n5 c5) 41)).alloc (.cells #[.int .i64 o, .int .i64 xa, .int .i64 xb] 33) = w2 at *
  refine sl_nil (wp_seq (wp_region_lit ?_))
  obtain ⟨k0, k1, k2, k3, k4, k5, k6⟩ := k_boxed HB.out
  have i0 := HI.out.cell 0
  have i1 := HI.out.cell 1
  have i2 := HI.out.cell 2
  simp only [List.getElem?_toArray, List.getElem?_cons_zero, List.getElem?_cons_succ] at i0 i1 i2
  unfold kArr at HL
  refine sl_op HF rfl rfl (by decide) ?_; intro K hK; have e2 := HF.see 2 rfl; go_wp2_with fail; clear e2 HF; intro _ HF
  refine sl_op HF rfl rfl (by decide) ?_; intro K hK; have e3 := HF.see 3 rfl; go_wp2_with fail; clear e3 HF; intro _ HF
  refine sl_op HF rfl rfl (by decide) ?_; intro K hK; have e9 := HF.see 9 rfl; go_wp2_with fail; clear e9 HF; intro _ HF
  refine sl_op HF rfl rfl (by decide) ?_; intro K hK; have e8 := HF.see 8 rfl; have e10 := HF.see 10 rfl; go_wp2_with fail
  refine HL.out.mono ?_
  rintro e w3 ⟨rfl, hm⟩
  have HB3 := Lib.hid (HB.out.keep hm id)
  have HI3 := Lib.hid (HI.out.keep hm id)
  have HM3 := Lib.hid (HM.out.trans hm)
  clear HB HI HM HL k0 k1 k2 k3 k4 k5 k6 i0 i1 i2 hm hW2
  obtain ⟨y, hy⟩ : ∃ y, (litGet c xa).getD lit0 = y := ⟨_, rfl⟩
  obtain ⟨t, ht⟩ : ∃ t, (litGet c xa).isSome = t := ⟨_, rfl⟩
  have HLG := Lib.hid (show litGet c xa = if t then some y else none by
    rcases h : litGet c xa with _ | z
    · rw [h] at ht
      subst ht
      rfl
    · rw [h] at ht hy
      subst ht hy
      rfl)
  have HTX := Lib.hid (show t = true → y.text.length ≤ 2000000 by
    intro h
    have := HLG.out
    rw [if_pos h] at this
    unfold litGet at this
    split at this
    · exact HT.out _ (List.mem_of_getElem? this)
    · cases this)
  rw [hy, ht]
  clear hy ht
  go_wp2_with fail; clear e8 e10 HF; intro _ HF
  refine sl_move HF rfl rfl (.inl rfl) (by decide) rfl ?_; clear HF; intro _ HF
  refine sl_op HF rfl rfl (by decide) ?_; intro K hK; have e7 := HF.see 7 rfl; go_wp2_with fail; clear e7 HF; intro _ HF
  refine sl_op HF rfl rfl (by decide) ?_; intro K hK; have e7 := HF.see 7 rfl; go_wp2_with fail; clear e7 HF; intro _ HF
  refine sl_op HF rfl rfl (by decide) ?_; intro K hK; go_wp2_with fail; clear HF; intro _ HF
  have hz : Blk (w3.alloc (.cells litZ 45)) w3.heap.size 45 litZ := Blk.new _ _ _
  obtain ⟨hk0, hk1, hk2, hf0, hf1, hf2⟩ := lit_facts hz
  have hm4 := (Mod.refl Nil w3).alloc (.cells litZ 45)
  unfold litZ at hk0 hk1 hk2 hf0 hf1 hf2
  unfold litA at HF
  refine sl_op0 HF rfl rfl ?_; intro K hK; have e5 := HF.see 5 rfl; have e12 := HF.see 12 rfl; go_wp2_with fail; clear e5 e12 HF; intro _ HF
  refine sl_move HF rfl rfl (.inr rfl) (by decide) rfl ?_; clear HF; intro _ HF
  clear hz hk0 hk1 hk2 hf0 hf1 hf2 hm4
  have hl4 : Blk (w3.alloc (.cells (litA y) 45)) w3.heap.size 45 (litA y) := Blk.new _ _ _
  have hm4 := (Mod.refl Nil w3).alloc (.cells (litA y) 45)
  have HB4 := Lib.hid (HB3.out.keep hm4 id)
  have HI4 := Lib.hid (HI3.out.keep hm4 id)
  have HM4 := Lib.hid (HM3.out.trans hm4)
  have HL4 := Lib.hid hl4
  clear hl4 hm4 HB3 HI3 HM3 HT
  refine sl_nil (wp_seq (wp_seq (wp_region_lit ?_)))
  change wpList _ _ _ _ _ (w3.alloc (.cells (litA y) 45))
  generalize w3.alloc (.cells (litA y) 45) = w4 at HB4 HI4 HM4 HL4 ⊢
  generalize w3.heap.size = g5 at HL4 HF
  have i0 := HI4.out.cell 0
  have i1 := HI4.out.cell 1
  have i2 := HI4.out.cell 2
  simp only [List.getElem?_toArray, List.getElem?_cons_zero, List.getElem?_cons_succ] at i0 i1 i2
  refine sl_op HF rfl rfl (by decide) ?_; intro K hK; have e3 := HF.see 3 rfl; go_wp2_with fail; clear e3 HF; intro _ HF
  refine sl_op HF rfl rfl (by decide) ?_; intro K hK; have e14 := HF.see 14 rfl; go_wp2_with fail; clear e14 HF; intro _ HF
  rcases hcs with rfl | rfl | rfl | rfl
  · refine sl_nil (wp_block (wp_seq (wp_region_lit ?_)))
    refine sl_op HF rfl rfl (by decide) ?_; intro K hK; have e15 := HF.see 15 rfl; go_wp2_with fail; clear e15 HF; intro _ HF
    refine sl_move HF rfl rfl (.inr rfl) (by decide) rfl ?_; clear HF; intro _ HF
    refine sl_nil (wp_cond_false (HF.at 16 rfl) (wp_seq (wp_region_lit ?_)))
    refine sl_op HF rfl rfl (by decide) ?_; intro K hK; have e15 := HF.see 15 rfl; go_wp2_with fail; clear e15 HF; intro _ HF
    refine sl_move HF rfl rfl (.inr rfl) (by decide) rfl ?_; clear HF; intro _ HF
    refine sl_nil (wp_cond_false (HF.at 24 rfl) (wp_seq (wp_seq (wp_region_lit ?_))))
    refine sl_op HF rfl rfl (by decide) ?_; intro K hK; have e15 := HF.see 15 rfl; go_wp2_with fail; clear e15 HF; intro _ HF
    refine sl_move HF rfl rfl (.inr rfl) (by decide) rfl ?_; clear HF; intro _ HF
    refine sl_nil (wp_cond_false (HF.at 37 rfl) (wp_region_lit ?_))
    refine sl_op HF rfl rfl (by decide) ?_; intro K hK; have e15 := HF.see 15 rfl; go_wp2_with fail; clear e15 HF; intro _ HF
    refine sl_move HF rfl rfl (.inr rfl) (by decide) rfl ?_; clear HF; intro _ HF
    refine sl_nil (wp_cond_false (HF.at 37 rfl) (wp_seq (wp_seq (wp_region_lit ?_))))
    refine sl_op HF rfl rfl (by decide) ?_; intro K hK; have e15 := HF.see 15 rfl; go_wp2_with fail; clear e15 HF; intro _ HF
    refine sl_move HF rfl rfl (.inr rfl) (by decide) rfl ?_; clear HF; intro _ HF
    refine sl_nil (wp_cond_true (HF.at 51 rfl) (wp_skip (sl_then ?_)))
    have HF2 := HF.keep [2, 3, 5, 6, 51]
    simp only [pick, look, argL] at HF2
    refine may_send (c := c) (x := ⟨10, xa, xb⟩) HF2 HI4.out HL4.out HLG.out HTX.out fun a' w' HF hm => ?_
    dsimp only [Exit.then, Exit.inBlock]
    exact sl_ret1 HF rfl rfl ⟨ret_bool (by rw [mayF_send (by simp)]), HM4.out.trans hm⟩
  · refine sl_nil (wp_block (wp_seq (wp_region_lit ?_)))
    refine sl_op HF rfl rfl (by decide) ?_; intro K hK; have e15 := HF.see 15 rfl; go_wp2_with fail; clear e15 HF; intro _ HF
    refine sl_move HF rfl rfl (.inr rfl) (by decide) rfl ?_; clear HF; intro _ HF
    refine sl_nil (wp_cond_false (HF.at 16 rfl) (wp_seq (wp_region_lit ?_)))
    refine sl_op HF rfl rfl (by decide) ?_; intro K hK; have e15 := HF.see 15 rfl; go_wp2_with fail; clear e15 HF; intro _ HF
    refine sl_move HF rfl rfl (.inr rfl) (by decide) rfl ?_; clear HF; intro _ HF
    refine sl_nil (wp_cond_false (HF.at 24 rfl) (wp_seq (wp_seq (wp_region_lit ?_))))
    refine sl_op HF rfl rfl (by decide) ?_; intro K hK; have e15 := HF.see 15 rfl; go_wp2_with fail; clear e15 HF; intro _ HF
    refine sl_move HF rfl rfl (.inr rfl) (by decide) rfl ?_; clear HF; intro _ HF
    refine sl_nil (wp_cond_false (HF.at 37 rfl) (wp_region_lit ?_))
    refine sl_op HF rfl rfl (by decide) ?_; intro K hK; have e15 := HF.see 15 rfl; go_wp2_with fail; clear e15 HF; intro _ HF
    refine sl_move HF rfl rfl (.inr rfl) (by decide) rfl ?_; clear HF; intro _ HF
    refine sl_nil (wp_cond_false (HF.at 37 rfl) (wp_seq (wp_seq (wp_region_lit ?_))))
    refine sl_op HF rfl rfl (by decide) ?_; intro K hK; have e15 := HF.see 15 rfl; go_wp2_with fail; clear e15 HF; intro _ HF
    refine sl_move HF rfl rfl (.inr rfl) (by decide) rfl ?_; clear HF; intro _ HF
    refine sl_nil (wp_cond_false (HF.at 51 rfl) (wp_region_lit ?_))
    refine sl_op HF rfl rfl (by decide) ?_; intro K hK; have e15 := HF.see 15 rfl; go_wp2_with fail; clear e15 HF; intro _ HF
    refine sl_move HF rfl rfl (.inr rfl) (by decide) rfl ?_; clear HF; intro _ HF
    refine sl_nil ?_
    have HF2 := HF.keep [2, 3, 5, 6, 51]
    simp only [pick, look, argL] at HF2
    refine may_send (c := c) (x := ⟨11, xa, xb⟩) HF2 HI4.out HL4.out HLG.out HTX.out fun a' w' HF hm => ?_
    dsimp only [Exit.then, Exit.inBlock]
    exact sl_ret1 HF rfl rfl ⟨ret_bool (by rw [mayF_send (by simp)]), HM4.out.trans hm⟩
  · refine sl_nil (wp_block (wp_seq (wp_region_lit ?_)))
    refine sl_op HF rfl rfl (by decide) ?_; intro K hK; have e15 := HF.see 15 rfl; go_wp2_with fail; clear e15 HF; intro _ HF
    refine sl_move HF rfl rfl (.inr rfl) (by decide) rfl ?_; clear HF; intro _ HF
    refine sl_nil (wp_cond_false (HF.at 16 rfl) (wp_seq (wp_region_lit ?_)))
    refine sl_op HF rfl rfl (by decide) ?_; intro K hK; have e15 := HF.see 15 rfl; go_wp2_with fail; clear e15 HF; intro _ HF
    refine sl_move HF rfl rfl (.inr rfl) (by decide) rfl ?_; clear HF; intro _ HF
    refine sl_nil (wp_cond_false (HF.at 24 rfl) (wp_seq (wp_seq (wp_region_lit ?_))))
    refine sl_op HF rfl rfl (by decide) ?_; intro K hK; have e15 := HF.see 15 rfl; go_wp2_with fail; clear e15 HF; intro _ HF
    refine sl_move HF rfl rfl (.inr rfl) (by decide) rfl ?_; clear HF; intro _ HF
    refine sl_nil (wp_cond_false (HF.at 37 rfl) (wp_region_lit ?_))
    refine sl_op HF rfl rfl (by decide) ?_; intro K hK; have e15 := HF.see 15 rfl; go_wp2_with fail; clear e15 HF; intro _ HF
    refine sl_move HF rfl rfl (.inr rfl) (by decide) rfl ?_; clear HF; intro _ HF
    refine sl_nil (wp_cond_false (HF.at 37 rfl) (wp_seq (wp_seq (wp_region_lit ?_))))
    refine sl_op HF rfl rfl (by decide) ?_; intro K hK; have e15 := HF.see 15 rfl; go_wp2_with fail; clear e15 HF; intro _ HF
    refine sl_move HF rfl rfl (.inr rfl) (by decide) rfl ?_; clear HF; intro _ HF
    refine sl_nil (wp_cond_false (HF.at 51 rfl) (wp_region_lit ?_))
    refine sl_op HF rfl rfl (by decide) ?_; intro K hK; have e15 := HF.see 15 rfl; go_wp2_with fail; clear e15 HF; intro _ HF
    refine sl_move HF rfl rfl (.inr rfl) (by decide) rfl ?_; clear HF; intro _ HF
    refine sl_nil (wp_cond_false (HF.at 51 rfl) (wp_seq (wp_seq (wp_region_lit ?_))))
    refine sl_op HF rfl rfl (by decide) ?_; intro K hK; have e15 := HF.see 15 rfl; go_wp2_with fail; clear e15 HF; intro _ HF
    refine sl_move HF rfl rfl (.inr rfl) (by decide) rfl ?_; clear HF; intro _ HF
    refine sl_nil (wp_cond_true (HF.at 73 rfl) (wp_skip (sl_then (wp_cond_true (HF.at 73 rfl) (wp_seq (wp_region_lit ?_))))))
    obtain ⟨k0, k1, k2, k3, k4, k5, k6⟩ := k_boxed HB4.out
    have HV := Lib.hid (variable_any (v := v) xa xb false w4 HX.out.2.1 (fun w' h => HC.out w' (HM4.out.trans h)) (HA.out.keep HM4.out) hn)
    unfold kArr at HV
    refine sl_op HF rfl rfl (by decide) ?_; intro K hK; have e2 := HF.see 2 rfl; go_wp2_with fail; clear e2 HF; intro _ HF
    refine sl_op HF rfl rfl (by decide) ?_; intro K hK; have e3 := HF.see 3 rfl; go_wp2_with fail; clear e3 HF; intro _ HF
    refine sl_op HF rfl rfl (by decide) ?_; intro K hK; have e77 := HF.see 77 rfl; go_wp2_with fail; clear e77 HF; intro _ HF
    refine sl_op HF rfl rfl (by decide) ?_; intro K hK; have e3 := HF.see 3 rfl; go_wp2_with fail; clear e3 HF; intro _ HF
    refine sl_op HF rfl rfl (by decide) ?_; intro K hK; have e79 := HF.see 79 rfl; go_wp2_with fail; clear e79 HF; intro _ HF
    refine sl_op HF rfl rfl (by decide) ?_; intro K hK; have e3 := HF.see 3 rfl; go_wp2_with fail; clear e3 HF; intro _ HF
    refine sl_op HF rfl rfl (by decide) ?_; intro K hK; have e81 := HF.see 81 rfl; go_wp2_with fail; clear e81 HF; intro _ HF
    refine sl_op HF rfl rfl (by decide) ?_; intro K hK; have e82 := HF.see 82 rfl; go_wp2_with fail; clear e82 HF; intro _ HF
    refine sl_op HF rfl rfl (by decide) ?_; intro K hK; have e76 := HF.see 76 rfl; have e78 := HF.see 78 rfl; have e80 := HF.see 80 rfl; have e83 := HF.see 83 rfl; go_wp2_with fail
    refine HV.out.mono ?_
    rintro e w5 ⟨rfl, hm5⟩
    have HM5 := Lib.hid (HM4.out.trans hm5)
    clear hm5
    go_wp2_with fail; clear e76 e78 e80 e83 HF; intro _ HF
    refine sl_move HF rfl rfl (.inr rfl) (by decide) rfl ?_; clear HF; intro _ HF
    refine sl_nil (wp_ret ?_)
    dsimp only [Exit.then, Exit.inBlock]
    exact sl_ret1 HF rfl rfl ⟨ret_bool rfl, HM5.out⟩
  · refine sl_nil (wp_block (wp_seq (wp_region_lit ?_)))
    refine sl_op HF rfl rfl (by decide) ?_; intro K hK; have e15 := HF.see 15 rfl; go_wp2_with fail; clear e15 HF; intro _ HF
    refine sl_move HF rfl rfl (.inr rfl) (by decide) rfl ?_; clear HF; intro _ HF
    refine sl_nil (wp_cond_false (HF.at 16 rfl) (wp_seq (wp_region_lit ?_)))
    refine sl_op HF rfl rfl (by decide) ?_; intro K hK; have e15 := HF.see 15 rfl; go_wp2_with fail; clear e15 HF; intro _ HF
    refine sl_move HF rfl rfl (.inr rfl) (by decide) rfl ?_; clear HF; intro _ HF
    refine sl_nil (wp_cond_false (HF.at 24 rfl) (wp_seq (wp_seq (wp_region_lit ?_))))
    refine sl_op HF rfl rfl (by decide) ?_; intro K hK; have e15 := HF.see 15 rfl; go_wp2_with fail; clear e15 HF; intro _ HF
    refine sl_move HF rfl rfl (.inr rfl) (by decide) rfl ?_; clear HF; intro _ HF
    refine sl_nil (wp_cond_false (HF.at 37 rfl) (wp_region_lit ?_))
    refine sl_op HF rfl rfl (by decide) ?_; intro K hK; have e15 := HF.see 15 rfl; go_wp2_with fail; clear e15 HF; intro _ HF
    refine sl_move HF rfl rfl (.inr rfl) (by decide) rfl ?_; clear HF; intro _ HF
    refine sl_nil (wp_cond_false (HF.at 37 rfl) (wp_seq (wp_seq (wp_region_lit ?_))))
    refine sl_op HF rfl rfl (by decide) ?_; intro K hK; have e15 := HF.see 15 rfl; go_wp2_with fail; clear e15 HF; intro _ HF
    refine sl_move HF rfl rfl (.inr rfl) (by decide) rfl ?_; clear HF; intro _ HF
    refine sl_nil (wp_cond_false (HF.at 51 rfl) (wp_region_lit ?_))
    refine sl_op HF rfl rfl (by decide) ?_; intro K hK; have e15 := HF.see 15 rfl; go_wp2_with fail; clear e15 HF; intro _ HF
    refine sl_move HF rfl rfl (.inr rfl) (by decide) rfl ?_; clear HF; intro _ HF
    refine sl_nil (wp_cond_false (HF.at 51 rfl) (wp_seq (wp_seq (wp_region_lit ?_))))
    refine sl_op HF rfl rfl (by decide) ?_; intro K hK; have e15 := HF.see 15 rfl; go_wp2_with fail; clear e15 HF; intro _ HF
    refine sl_move HF rfl rfl (.inr rfl) (by decide) rfl ?_; clear HF; intro _ HF
    refine sl_nil (wp_cond_false (HF.at 73 rfl) (wp_region_lit ?_))
    refine sl_op HF rfl rfl (by decide) ?_; intro K hK; have e15 := HF.see 15 rfl; go_wp2_with fail; clear e15 HF; intro _ HF
    refine sl_move HF rfl rfl (.inr rfl) (by decide) rfl ?_; clear HF; intro _ HF
    refine sl_nil (wp_cond_true (HF.at 73 rfl) (wp_seq (wp_region_lit ?_)))
    obtain ⟨k0, k1, k2, k3, k4, k5, k6⟩ := k_boxed HB4.out
    have HV := Lib.hid (variable_any (v := v) xa xb true w4 HX.out.2.1 (fun w' h => HC.out w' (HM4.out.trans h)) (HA.out.keep HM4.out) hn)
    unfold kArr at HV
    refine sl_op HF rfl rfl (by decide) ?_; intro K hK; have e2 := HF.see 2 rfl; go_wp2_with fail; clear e2 HF; intro _ HF
    refine sl_op HF rfl rfl (by decide) ?_; intro K hK; have e3 := HF.see 3 rfl; go_wp2_with fail; clear e3 HF; intro _ HF
    refine sl_op HF rfl rfl (by decide) ?_; intro K hK; have e77 := HF.see 77 rfl; go_wp2_with fail; clear e77 HF; intro _ HF
    refine sl_op HF rfl rfl (by decide) ?_; intro K hK; have e3 := HF.see 3 rfl; go_wp2_with fail; clear e3 HF; intro _ HF
    refine sl_op HF rfl rfl (by decide) ?_; intro K hK; have e79 := HF.see 79 rfl; go_wp2_with fail; clear e79 HF; intro _ HF
    refine sl_op HF rfl rfl (by decide) ?_; intro K hK; have e3 := HF.see 3 rfl; go_wp2_with fail; clear e3 HF; intro _ HF
    refine sl_op HF rfl rfl (by decide) ?_; intro K hK; have e81 := HF.see 81 rfl; go_wp2_with fail; clear e81 HF; intro _ HF
    refine sl_op HF rfl rfl (by decide) ?_; intro K hK; have e82 := HF.see 82 rfl; go_wp2_with fail; clear e82 HF; intro _ HF
    refine sl_op HF rfl rfl (by decide) ?_; intro K hK; have e76 := HF.see 76 rfl; have e78 := HF.see 78 rfl; have e80 := HF.see 80 rfl; have e83 := HF.see 83 rfl; go_wp2_with fail
    refine HV.out.mono ?_
    rintro e w5 ⟨rfl, hm5⟩
    have HM5 := Lib.hid (HM4.out.trans hm5)
    clear hm5
    go_wp2_with fail; clear e76 e78 e80 e83 HF; intro _ HF
    refine sl_move HF rfl rfl (.inr rfl) (by decide) rfl ?_; clear HF; intro _ HF
    refine sl_nil (wp_ret ?_)
    dsimp only [Exit.then, Exit.inBlock]
    exact sl_ret1 HF rfl rfl ⟨ret_bool rfl, HM5.out⟩
end Go.Proofs.YtefloadjolpgbaaDoor

namespace Go.Proofs.YtefloadjolpgbaaDoor
open Go.RowKit

/-- What the checker knows. -/
structure KF (w : World) (c : CodeT) (v : CodeV) (ar : List CodeT) (rows : List (List Value)) (A5 : Option Addr) (n5 c5 : Nat) : Prop where
  kf : ∀ w', Mod Nil w w' → CodeF w' c v
  kc : CodeC w c (codeArr c v).toList
  ka : AroF w ar rows A5 n5 c5
  kn : n5 ≤ 20
  kt : ∀ l ∈ c.lits, l.text.length ≤ 2000000
theorem KF.keep {w w' : World} {c : CodeT} {v : CodeV} {ar : List CodeT} {rows : List (List Value)} {A5 : Option Addr} {n5 c5 : Nat} (h : KF w c v ar rows A5 n5 c5) (hm : Mod Nil w w') : KF w' c v ar rows A5 n5 c5 :=
  ⟨fun w2 h2 => h.kf w2 (hm.trans h2), h.kc.keep hm, h.ka.keep hm, h.kn, h.kt⟩

set_option maxHeartbeats 1600000 in
set_option maxRecDepth 100000 in
theorem right1F_any {c : CodeT} {v : CodeV} {ar : List CodeT} {rows : List (List Value)} {A5 : Option Addr} {n5 c5 : Nat} (g : Nat) (x : InsT) (w : World) (hf : KF w c v ar rows A5 n5 c5) (hx : x.ok)
    (hb : Blk w g 41 (kArr c v A5 n5 c5)) :
    Calls Tryd.prog 32 #[.agg #[.int .i64 x.op, .int .i64 x.a, .int .i64 x.b], .pointer (some ⟨g, 0, none⟩)] w fun e w' => e = .returned (.bool (!mayF c ar x)) ∧ Mod Nil w w' := by
  have hm1 := (Mod.refl Nil w).alloc (.cells #[.int .i64 x.op, .int .i64 x.a, .int .i64 x.b] 33)
  have hb1 := hb.keep hm1 id
  obtain ⟨c0, c1, c2, c3, c4, c5', c6⟩ := k_boxed hb1
  obtain ⟨i0, i1, i2⟩ := ins_boxed w x.op x.a x.b
  have HK := Lib.hid (kMayF_any x _ (hf.keep hm1).kf (fun w' h => ((hf.keep hm1).keep h).kc) (hf.keep hm1).ka hf.kn hf.kt hx)
  have HM := Lib.hid hm1
  clear hb1 hm1 hf hx hb
  unfold kArr at HK
  go_enter Tryd.func32, Tryd.ntmps32
  go_wp2_with fail
  refine HK.out.mono ?_
  rintro e w2 ⟨rfl, hm⟩
  have HM2 := Lib.hid (HM.out.trans hm)
  clear hm
  go_wp2_with fail
  go_ret
  exact ⟨rfl, HM2.out⟩

set_option maxHeartbeats 1600000 in
set_option maxRecDepth 100000 in
theorem insIndexF_any {c : CodeT} {v : CodeV} {ar : List CodeT} {rows : List (List Value)} {A5 : Option Addr} {n5 c5 : Nat} (g : Nat) (A : Option Addr) (n cap : Nat) (ps : List InsT) (w : World) (hf : KF w c v ar rows A5 n5 c5) (hx : ∀ x ∈ ps, x.ok)
    (hb : Blk w g 41 (kArr c v A5 n5 c5)) (hn : ps.length = n) (hbig : n ≤ 20000) (hr : Rd All w A (ps.flatMap insC)) :
    Calls Tryd.prog 50 #[.slice A n cap, kFn g] w fun r w' => ∃ i : Int, r = .returned (.int .i64 i) ∧ (0 ≤ i ↔ ps.any (fun x => !mayF c ar x) = true) ∧ Mod Nil w w' := by
  have HR := Lib.hid hr
  have HF := Lib.hid hf
  have HX := Lib.hid hx
  have HB := Lib.hid hb
  clear hr hf hx hb
  unfold kFn
  go_enter Tryd.func50, Tryd.ntmps50
  go_wp2_with fail
  go_loopw [8] (fun i wr => ∃ (k : Nat), k ≤ n ∧ i = .int .i64 k ∧ (∀ j p, j < k → ps[j]? = some p → mayF c ar p = true) ∧ Mod Nil w wr) (fun v _ => n - (intOf v).toNat)
  case atStart => exact ⟨0, Nat.zero_le _, rfl, fun j i hj => absurd hj (by omega), Mod.refl _ _⟩
  case round =>
    obtain ⟨k, hk, rfl, hno, hm⟩ := hrel
    have HNO := Lib.hid hno
    have HM := Lib.hid hm
    clear hno hm
    by_cases hlt : k < n
    · obtain ⟨p, hp⟩ : ∃ p, ps[k]? = some p := ⟨_, List.getElem?_eq_getElem (by omega)⟩
      obtain ⟨ad, rfl, hadl, a0, a1, a2⟩ := eqIns_at (HR.out.keep0 HM.out) hp
      have HC := Lib.hid (right1F_any g p _ (HF.out.keep HM.out) (HX.out p (List.mem_of_getElem? hp)) (HB.out.keep HM.out id))
      have hbad : mayF c ar p = false → ps.any (fun x => !mayF c ar x) = true := fun h => by
        rw [List.any_eq_true]
        exact ⟨p, List.mem_of_getElem? hp, by simp [h]⟩
      have hgood : mayF c ar p = true → ∀ j q, j < k + 1 → ps[j]? = some q → mayF c ar q = true := fun h j q hj hq => by
        rcases Nat.lt_or_ge j k with h1 | h1
        · exact HNO.out j q h1 hq
        · have : j = k := by omega
          subst this
          rw [hp] at hq
          cases hq
          exact h
      have HBD := Lib.hid hbad
      have HG := Lib.hid hgood
      clear hbad hgood hp hn
      go_wp2_with fail
      refine HC.out.mono ?_
      rintro e w2 ⟨rfl, hm⟩
      have HM2 := Lib.hid (HM.out.trans hm)
      clear hm
      rcases hb : mayF c ar p with _ | _
      · have HX := Lib.hid (HBD.out hb)
        clear hb
        go_wp2_with fail
        go_ret
        exact ⟨_, rfl, ⟨fun _ => HX.out, fun _ => by omega⟩, HM2.out⟩
      · have HX := Lib.hid (HG.out hb)
        clear hb
        go_wp2_with fail
        refine ⟨⟨k + 1, hlt, rfl, HX.out, HM2.out⟩, ?_⟩
        simp [intOf]
        omega
    · have HX := Lib.hid (show ps.any (fun x => !mayF c ar x) = false by
        rw [List.any_eq_false]
        intro p hp
        obtain ⟨j, hj⟩ := List.getElem?_of_mem hp
        have := (List.getElem?_eq_some_iff.1 hj).1
        simp [HNO.out j p (by omega) hj])
      go_wp2_with fail
      go_ret
      exact ⟨_, rfl, by rw [HX.out]; simp, HM.out⟩

set_option maxHeartbeats 400000 in
set_option maxRecDepth 100000 in
theorem insContainsF_any {c : CodeT} {v : CodeV} {ar : List CodeT} {rows : List (List Value)} {A5 : Option Addr} {n5 c5 : Nat} (g : Nat) (A : Option Addr) (n cap : Nat) (ps : List InsT) (w : World) (hf : KF w c v ar rows A5 n5 c5) (hx : ∀ x ∈ ps, x.ok)
    (hb : Blk w g 41 (kArr c v A5 n5 c5)) (hn : ps.length = n) (hbig : n ≤ 20000) (hr : Rd All w A (ps.flatMap insC)) :
    Calls Tryd.prog 31 #[.slice A n cap, kFn g] w fun r w' => r = .returned (.bool (ps.any fun x => !mayF c ar x)) ∧ Mod Nil w w' := by
  have HI := Lib.hid (insIndexF_any g A n cap ps w hf hx hb hn hbig hr)
  unfold kFn at HI ⊢
  clear hr hf hx hb
  go_enter Tryd.func31, Tryd.ntmps31
  go_wp2_with fail
  refine HI.out.mono ?_
  rintro e w2 ⟨i, rfl, hi, hm⟩
  have HM := Lib.hid hm
  have HIF := Lib.hid hi
  clear hm hi
  go_wp2_with fail
  go_ret
  refine ⟨ret_bool ?_, HM.out⟩
  have := HIF.out
  rw [Bool.eq_iff_iff]
  simpa using this
end Go.Proofs.YtefloadjolpgbaaDoor

namespace Go.Proofs.YtefloadjolpgbaaDoor
open Go.RowKit

/-- What is asked ahead of the heights. -/
structure PreP (c : CodeT) (ar : List CodeT) : Prop where
  a0 : 0 ≤ c.args
  av : c.args ≤ c.vars
  v60 : c.vars ≤ 60
  l4 : c.lits.length ≤ 4000
  lg : c.lits.any litBad = false
  i1 : 1 ≤ c.ins.length
  i2 : c.ins.length ≤ 20000
  b4 : c.blocks.length ≤ 4000
  r20 : ar.length ≤ 20
  top : ar = [] → nmClass c.cls = true
  inn : ar ≠ [] → c.cls = []
  may : ∀ x ∈ c.ins, mayF c ar x = true

inductive RightP : CodeT → List CodeT → Prop
  | mk (c : CodeT) (ar : List CodeT) (pre : PreP c ar) (fit : ∃ f, Fits c.ins f) (blk : ∀ b ∈ c.blocks, RightP b (ar ++ [c])) : RightP c ar
theorem RightP.pre {c : CodeT} {ar : List CodeT} (h : RightP c ar) : PreP c ar := by cases h; assumption
theorem RightP.fit {c : CodeT} {ar : List CodeT} (h : RightP c ar) : ∃ f, Fits c.ins f := by cases h; assumption
theorem RightP.blk {c : CodeT} {ar : List CodeT} (h : RightP c ar) : ∀ b ∈ c.blocks, RightP b (ar ++ [c]) := by cases h; assumption

/-- Texts are not too long. -/
inductive TxtP : CodeT → Prop
  | mk (c : CodeT) (h : ∀ l ∈ c.lits, l.text.length ≤ 2000000) (hc : c.cls.length ≤ 2000000) (b : ∀ b ∈ c.blocks, TxtP b) : TxtP c
theorem TxtP.lits {c : CodeT} (h : TxtP c) : ∀ l ∈ c.lits, l.text.length ≤ 2000000 := by cases h; assumption
theorem TxtP.cls {c : CodeT} (h : TxtP c) : c.cls.length ≤ 2000000 := by cases h; assumption
theorem TxtP.blk {c : CodeT} (h : TxtP c) : ∀ b ∈ c.blocks, TxtP b := by cases h; assumption

theorem nmArgs_le (l : List UInt8) : nmArgs l ≤ 11 := by
  unfold nmArgs
  split
  · omega
  · split
    · omega
    · split
      · unfold kwL
        split
        · rename_i h
          unfold nmKw at h
          simp only [Bool.and_eq_true, decide_eq_true_eq] at h
          simp only [List.length_map]
          omega
        · simp
      · omega

theorem ins_fit {c : CodeT} {ar : List CodeT} {x : InsT} (h : mayF c ar x = true) : InsFit x := by
  unfold mayF at h
  split at h
  · rename_i h67
    unfold InsFit insTakes
    rcases h67 with h6 | h6 <;> rw [h6] <;> simp
  · rename_i h67
    unfold mayL at h
    unfold InsFit insTakes
    split at h
    · rename_i h0; rw [h0]; simp
    · split at h
      · rename_i h0; rw [h0]; simp
      · split at h
        · rename_i h0; rcases h0 with h0 | h0 <;> rw [h0] <;> simp
        · split at h
          · rename_i h0
            rcases hl : litGet c x.a with _ | l
            · rw [hl] at h; cases h
            · rw [hl] at h
              simp only [Bool.and_eq_true, decide_eq_true_eq, beq_iff_eq] at h
              have hb := nmArgs_le l.text
              rw [h.2] at hb
              have := h.1.2
              rcases h0 with h0 | h0 <;> rw [h0] <;> simp <;> omega
          · split at h
            · rename_i h0; rw [h0]; simp
            · split at h
              · rename_i h0
                simp only [Bool.and_eq_true, decide_eq_true_eq] at h
                rw [h0]; simp; omega
              · split at h
                · rename_i h0; rw [h0]; simp
                · simp only [Bool.and_eq_true, decide_eq_true_eq] at h
                  refine ⟨by omega, by omega, ?_⟩
                  repeat' split
                  all_goals omega
end Go.Proofs.YtefloadjolpgbaaDoor

namespace Go.Proofs.YtefloadjolpgbaaDoor
open Go.RowKit Go.ChangeShapes Go.WideShapes

theorem bulk_mem {H : Type} {d : DataW H} {l : List (DataW H)} (h : d ∈ l) : Rows.uptoBulk d ≤ Rows.uptoBulkAll l := by
  induction l with
  | nil => cases h
  | cons x r ih =>
    simp only [Rows.uptoBulkAll]
    cases List.mem_cons.1 h with
    | inl e => subst e; omega
    | inr e => have := ih e; omega
theorem bulk_at {H : Type} {xs : List (DataW H × List MemPlace)} {i : Nat} {y : DataW H × List MemPlace} (h : xs[i]? = some y) : Rows.uptoBulk y.1 ≤ Rows.uptoBulkAll (xs.map (·.1)) :=
  bulk_mem (List.mem_map.2 ⟨y, List.mem_of_getElem? h, rfl⟩)
theorem cells_eq {w : World} {base : Nat} {a : Addr} {k n : Nat} {cs r : List Value} (h : w.cells? base (a.add k) n = some cs) (hr : r.length = n) (hc : ∀ j u, r[j]? = some u → w.cell? (a.add (k + j)) = some u) : cs = r := by
  obtain ⟨_, hl, hcell⟩ := World.cells?_some h
  refine List.ext_getElem? fun j => ?_
  rcases Nat.lt_or_ge j n with hj | hj
  · obtain ⟨u, hu⟩ : ∃ u, r[j]? = some u := ⟨_, List.getElem?_eq_getElem (by omega)⟩
    rw [← hcell j hj, Go.Deep.add_add, hc j u hu, hu]
  · rw [List.getElem?_eq_none (by omega), List.getElem?_eq_none (by omega)]

section
variable {H : Type} {enc : TypeId × Value → H} {w : World} {base : Nat} {spare : Nat → Bool} {held : Bool}

theorem str_txt {fuel : Nat} {l : List UInt8} {x : DataW H × List MemPlace} (h : DataW.trod enc Tryd.prog w base spare held fuel 9 [.string (str l)] = some x) : l.length ≤ Rows.uptoBulk x.1 := by
  obtain ⟨s, hs, rfl, _⟩ := DataW.trod_string Tryd.underlying9 h
  have hs' : str l = s := by simpa using hs
  subst hs'
  simp only [Rows.uptoBulk]
  have : (str l).data.toList.length = l.length := by rw [Array.length_toList]; exact str_size l
  omega

set_option maxRecDepth 100000 in
theorem lit_txt {fuel : Nat} {l : LitT} {x : DataW H × List MemPlace} (h : DataW.trod enc Tryd.prog w base spare held fuel 45 (litC l) = some x) : l.text.length ≤ Rows.uptoBulk x.1 := by
  obtain ⟨xs, n, _, rfl, hl, hlen, hf⟩ := DataW.trod_struct Tryd.underlying45 h
  have h2 : DataW.trod enc Tryd.prog w base spare held n 9 (((litC l).drop 2).take (Tryd.prog.cellsOf 9)) = xs[2]? := hf 2 _ rfl
  have hlen3 : xs.length = 3 := hlen
  obtain ⟨y, hy⟩ : ∃ y, xs[2]? = some y := ⟨_, List.getElem?_eq_getElem (by omega)⟩
  have hc : Tryd.prog.cellsOf 9 = 1 := by kernel_rfl
  rw [hy, hc] at h2
  have h3 := str_txt (l := l.text) h2
  have h4 := bulk_at hy
  simp only [Rows.uptoBulk]
  omega

set_option maxRecDepth 100000 in
theorem txt_of_trod {c : CodeT} {cs : List Value} (h : CodeC w c cs) : ∀ (fuel : Nat) (x : DataW H × List MemPlace), DataW.trod enc Tryd.prog w base spare held fuel 26 cs = some x → Rows.uptoBulk x.1 ≤ 1048576 → TxtP c := by
  induction h with
  | mk args vars lits ins blocks cls A2 A3 A4 c2 c3 c4 rows ha hv hcl hl hi n2 m2 n3 m3 n4 m4 r2 r3 r4 hr h6 hb ih =>
    intro fuel x ht hx
    obtain ⟨xs, n, _, rfl, hlen, hxl, hf⟩ := DataW.trod_struct Tryd.underlying26 ht
    simp only [Rows.uptoBulk] at hx
    have hsz : xs.length = 6 := hxl
    have c1 : Tryd.prog.cellsOf 9 = 1 := by kernel_rfl
    have c22 : Tryd.prog.cellsOf 22 = 1 := by kernel_rfl
    have c24 : Tryd.prog.cellsOf 24 = 1 := by kernel_rfl
    have c45 : Tryd.prog.cellsOf 45 = 3 := by kernel_rfl
    have c26 : Tryd.prog.cellsOf 26 = 6 := by kernel_rfl
    obtain ⟨y2, hy2⟩ : ∃ y, xs[2]? = some y := ⟨_, List.getElem?_eq_getElem (by omega)⟩
    obtain ⟨y4, hy4⟩ : ∃ y, xs[4]? = some y := ⟨_, List.getElem?_eq_getElem (by omega)⟩
    obtain ⟨y5, hy5⟩ : ∃ y, xs[5]? = some y := ⟨_, List.getElem?_eq_getElem (by omega)⟩
    have h2 : DataW.trod enc Tryd.prog w base spare held n 22 ([Value.slice A2 lits.length c2, .slice A3 ins.length c3, .slice A4 blocks.length c4, .string (str cls)].take (Tryd.prog.cellsOf 22)) = xs[2]? := hf 2 _ rfl
    have h4 : DataW.trod enc Tryd.prog w base spare held n 24 ([Value.slice A4 blocks.length c4, .string (str cls)].take (Tryd.prog.cellsOf 24)) = xs[4]? := hf 4 _ rfl
    have h5 : DataW.trod enc Tryd.prog w base spare held n 9 ([Value.string (str cls)].take (Tryd.prog.cellsOf 9)) = xs[5]? := hf 5 _ rfl
    rw [hy2, c22] at h2
    rw [hy4, c24] at h4
    rw [hy5, c1] at h5
    simp only [List.take] at h2 h4 h5
    have b2 := bulk_at hy2
    have b4 := bulk_at hy4
    have b5 := bulk_at hy5
    have t5 := str_txt h5
    refine .mk _ (fun l hlm => ?_) (show cls.length ≤ 2000000 by omega) (fun b hbm => ?_)
    · obtain ⟨i, hli⟩ := List.getElem?_of_mem hlm
      have hli' : lits[i]? = some l := hli
      have hil := (List.getElem?_eq_some_iff.1 hli').1
      obtain ⟨ad, hA, _, hc⟩ := flat3_at r2 (fun x => rfl) hli'
      subst hA
      rcases DataW.trod_slice Tryd.underlying22 h2 with ⟨e, _⟩ | ⟨a, len, cap, elems, rest, n', _, e, rfl, _, _, _, hel, hat, _⟩
      · simp at e
      · simp only [List.cons.injEq, Value.slice.injEq, Option.some.injEq, and_true] at e
        obtain ⟨rfl, rfl, rfl⟩ := e
        have h1 := hat i hil
        obtain ⟨y, hy⟩ : ∃ y, elems[i]? = some y := ⟨_, List.getElem?_eq_getElem (by omega)⟩
        rw [hy] at h1
        obtain ⟨cs', hcs, ht'⟩ := Option.bind_eq_some_iff.1 h1
        rw [c45] at hcs
        obtain rfl := cells_eq hcs (r := litC l) rfl hc
        have t1 := lit_txt ht'
        have t2 := bulk_at hy
        simp only [Rows.uptoBulk] at b2
        omega
    · obtain ⟨i, hbi⟩ := List.getElem?_of_mem hbm
      have hbi' : blocks[i]? = some b := hbi
      have hil := (List.getElem?_eq_some_iff.1 hbi').1
      obtain ⟨r, hri⟩ : ∃ r, rows[i]? = some r := ⟨_, List.getElem?_eq_getElem (by omega)⟩
      obtain ⟨ad, hA, _, hc⟩ := rows_at r4 h6 hri
      subst hA
      rcases DataW.trod_slice Tryd.underlying24 h4 with ⟨e, _⟩ | ⟨a, len, cap, elems, rest, n', _, e, rfl, _, _, _, hel, hat, _⟩
      · simp at e
      · simp only [List.cons.injEq, Value.slice.injEq, Option.some.injEq, and_true] at e
        obtain ⟨rfl, rfl, rfl⟩ := e
        have h1 := hat i hil
        obtain ⟨y, hy⟩ : ∃ y, elems[i]? = some y := ⟨_, List.getElem?_eq_getElem (by omega)⟩
        rw [hy] at h1
        obtain ⟨cs', hcs, ht'⟩ := Option.bind_eq_some_iff.1 h1
        rw [c26] at hcs
        obtain rfl := cells_eq hcs (h6 r (List.mem_of_getElem? hri)) hc
        have t2 := bulk_at hy
        simp only [Rows.uptoBulk] at b4
        exact ih i b _ hbi' hri _ _ ht' (by omega)

theorem code_open_txt {cs : Array Value} {d : DataW H} {p : List MemPlace} (h : DataW.Trod enc Tryd.prog w base spare held 26 (.agg cs) d p) (hb : Rows.uptoBulk d ≤ 1048576) : ∃ c, CodeC w c cs.toList ∧ TxtP c := by
  obtain ⟨c, hc⟩ := code_open h
  obtain ⟨m, hm⟩ := h
  exact ⟨c, hc, txt_of_trod hc m _ hm hb⟩

theorem bools_open {A : Option Addr} {n cap : Nat} {d : DataW H} {p : List MemPlace} (h : DataW.Trod enc Tryd.prog w base spare held 27 (.slice A n cap) d p) :
    ∃ ws : List Bool, ws.length = n ∧ n ≤ cap ∧ cap ≤ 9223372036854775807 ∧ Rd All w A (ws.map Value.bool) := by
  obtain ⟨m, hm⟩ := h
  have c1 : Tryd.prog.cellsOf 4 = 1 := by kernel_rfl
  rcases DataW.trod_slice Tryd.underlying27 hm with ⟨e, _⟩ | ⟨a, len, cap', elems, rest, n', _, e, _, _, hlc, hcm, hel, hat, _⟩
  · have e' : (Value.slice A n cap).cells = _ := rfl
    simp [Value.cells] at e
    obtain ⟨rfl, rfl, rfl⟩ := e
    exact ⟨[], rfl, Nat.le_refl _, by decide, Rd.nil _ _ _⟩
  · simp [Value.cells] at e
    obtain ⟨rfl, rfl, rfl⟩ := e
    have each : ∀ i, i < n → ∃ b : Bool, w.cell? (a.add i) = some (.bool b) := fun i hi => by
      have h1 := hat i hi
      obtain ⟨y, hy⟩ : ∃ y, elems[i]? = some y := ⟨_, List.getElem?_eq_getElem (by omega)⟩
      rw [hy] at h1
      obtain ⟨cs', hcs, ht'⟩ := Option.bind_eq_some_iff.1 h1
      rw [c1, Nat.mul_one] at hcs
      obtain ⟨b, rfl, _⟩ := DataW.trod_bool Tryd.underlying4 ht'
      obtain ⟨_, _, hcell⟩ := World.cells?_some hcs
      have := hcell 0 (by decide)
      rw [Go.Deep.add_add, Nat.add_zero] at this
      exact ⟨b, this⟩
    refine ⟨(List.range n).map fun i => if h : i < n then (each i h).choose else false, by simp, hlc, by unfold maxLen at hcm; omega, fun hp => ?_⟩
    refine ⟨a, rfl, trivial, ?_, fun j u hj => ?_⟩
    · have hn : 0 < n := by simpa using hp
      have h0 := (each 0 hn).choose_spec
      have := World.block_lt_of_cell? w _ h0
      rw [block_of_add] at this
      exact this
    · have hjn : j < n := by have := (List.getElem?_eq_some_iff.1 hj).1; simpa using this
      simp [hjn] at hj
      rw [← hj]
      exact (each j hjn).choose_spec
end
end Go.Proofs.YtefloadjolpgbaaDoor
