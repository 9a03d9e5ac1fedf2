/- Parts of the proof of CodeSames, joined: May Rgt Rgp Rgu Rgv. -/
import Derived.Test.YtefloadjolpgbaaDoorCodeSamesj13
namespace Go.Proofs.YtefloadjolpgbaaDoor
open Go.RowKit

def sendL (c : CodeT) (x : InsT) : Bool := match litGet c x.a with
  | none => false
  | some l => l.kind == 3 && decide (0 ≤ x.b) && (nmArgs l.text == x.b)
/-- May it stand there. -/
def mayF (c : CodeT) (ar : List CodeT) (x : InsT) : Bool := if x.op = 6 ∨ x.op = 7 then varL ar c x.a x.b (x.op == 7) else mayL c ar.length x

noncomputable def mayBody : Code := (Tryd.f33.body).getD .skip

set_option maxHeartbeats 3200000 in
set_option maxRecDepth 100000 in
theorem may_send {Q : Exit → Act → World → Prop} {a : Act} {w : World} {c : CodeT} {x : InsT} {g2 g3 g5 : Nat} {y : LitT} {t : Bool}
    (HF : Sl 123 [(2, .pointer (some ⟨g2, 0, none⟩)), (3, .pointer (some ⟨g3, 0, none⟩)), (5, .pointer (some ⟨g5, 0, none⟩)), (6, .bool t), (51, .bool true)] a)
    (hi : Blk w g3 33 #[.int .i64 x.op, .int .i64 x.a, .int .i64 x.b]) (hl : Blk w g5 45 (litA y)) (hy : litGet c x.a = if t then some y else none) (hT : t = true → y.text.length ≤ 2000000)
    (hQ : ∀ a' w', Sl 123 [(4, .bool (sendL c x))] a' → Mod Nil w w' → Q .ret a' w') : (part [1, 1, 0, 1, 0, 1, 1, 1, 1, 1, 1, 1] mayBody).wp Tryd.prog Q a w := by
  have HI := Lib.hid hi
  have HL := Lib.hid hl
  have HQ := Lib.hid hQ
  have HT := Lib.hid hT
  have HS := Lib.hid (show sendL c x = (match litGet c x.a with | none => false | some l => l.kind == 3 && decide (0 ≤ x.b) && (nmArgs l.text == x.b)) from rfl)
  rw [hy] at HS
  clear hi hl hQ hy hT
  obtain ⟨W, hW⟩ : ∃ W, W = w.drew := ⟨_, rfl⟩
  have HW := Lib.hid hW
  have HFS := Lib.hid (show ∀ w', Mod Nil W w' → _ from fun w' h => (⟨(hW ▸ HI.out : Blk W g3 _ _).keep h id, (hW ▸ HL.out : Blk W g5 _ _).keep h id⟩ : Blk w' g3 33 #[.int .i64 x.op, .int .i64 x.a, .int .i64 x.b] ∧ Blk w' g5 45 (litA y)))
  have HMW := Lib.hid (show ∀ w', Mod Nil W w' → Mod Nil w w' from fun w' h => (Mod.refl Nil w).drew.trans (hW ▸ h))
  clear hW HI HL
  obtain ⟨xo, xa, xb⟩ := x
  obtain ⟨yk, yn, yt⟩ := y
  unfold litA at HFS
  simp only at HS HFS HT
  conv => arg 2; whnf
  refine wp_cond_true (HF.at 51 rfl) (wp_seq ?_)
  rcases t with _ | _
  · skip
    apply sl_flow6 (N := 0) [some 54, some 55, some 56, some 57, some 58, some 59, some 60, some 61, some 62, some 63, some 64, some 65, some 66, some 67, some 68, some 69, some 70, some 71, some 72, some 4] [.quiet [] [], .quiet [] [], .quiet [] [], .quiet [] [], .quiet [] [], .quiet [] [], .quiet [] [], .quiet [] [], .quiet [] [], .quiet [] [], .quiet [] [], .quiet [] [], .quiet [] [], .quiet [] [], .quiet [] [], .quiet [] [], .quiet [] [], .quiet [] [], .quiet [] [], .quiet [] []] (PhK W (fun _ => undef)) [_, _, (fun _ => undef), (fun _ => undef), (fun _ => undef), _, _, (fun _ => undef), (fun _ => undef), (fun _ => undef), _, _, (fun _ => undef), (fun _ => undef), (fun _ => undef), (fun _ => undef), (fun _ => undef), (fun _ => undef), _, _] HF
    case hm => kernel_rfl
    case hok => kernel_rfl
    case hfl => rfl
    case h0 => exact (fun h => HW.out ▸ PhK.init h)
    case hobs =>
      apply And.intro
      · apply obm_quiet
        case hg => rfl
        case hop =>
          intro ax wx h S hD hE hP hk K hK
          have e6 := hk.see 6 rfl rfl
          clear hk hD hE
          go_wp2_with fail
          all_goals first | exact hP | rfl
        case hst => exact fun h h' e => rfl
      apply And.intro
      · apply obm_quiet
        case hg => rfl
        case hop =>
          intro ax wx h S hD hE hP hk K hK
          have e54 := hk.see 54 rfl rfl
          clear hk hD hE
          go_wp2_with fail
          all_goals first | exact hP | rfl
        case hst => exact fun h h' e => rfl
      refine And.intro (obm_skip rfl rfl (fun _ => rfl)) ?_
      refine And.intro (obm_skip rfl rfl (fun _ => rfl)) ?_
      refine And.intro (obm_skip rfl rfl (fun _ => rfl)) ?_
      apply And.intro
      · apply obm_quiet
        case hg => rfl
        case hop =>
          intro ax wx h S hD hE hP hk K hK
          have e55 := hk.see 55 rfl rfl
          have e58 := hk.see 58 rfl rfl
          clear hk hD hE
          go_wp2_with fail
          all_goals first | exact hP | rfl
        case hst => exact fun h h' e => rfl
      apply And.intro
      · apply obm_quiet
        case hg => rfl
        case hop =>
          intro ax wx h S hD hE hP hk K hK
          have e59 := hk.see 59 rfl rfl
          clear hk hD hE
          go_wp2_with fail
          all_goals first | exact hP | rfl
        case hst => exact fun h h' e => rfl
      refine And.intro (obm_skip rfl rfl (fun _ => rfl)) ?_
      refine And.intro (obm_skip rfl rfl (fun _ => rfl)) ?_
      refine And.intro (obm_skip rfl rfl (fun _ => rfl)) ?_
      apply And.intro
      · apply obm_quiet
        case hg => rfl
        case hop =>
          intro ax wx h S hD hE hP hk K hK
          have e60 := hk.see 60 rfl rfl
          have e63 := hk.see 63 rfl rfl
          clear hk hD hE
          go_wp2_with fail
          all_goals first | exact hP | rfl
        case hst => exact fun h h' e => rfl
      apply And.intro
      · apply obm_quiet
        case hg => rfl
        case hop =>
          intro ax wx h S hD hE hP hk K hK
          have e64 := hk.see 64 rfl rfl
          clear hk hD hE
          go_wp2_with fail
          all_goals first | exact hP | rfl
        case hst => exact fun h h' e => rfl
      refine And.intro (obm_skip rfl rfl (fun _ => rfl)) ?_
      refine And.intro (obm_skip rfl rfl (fun _ => rfl)) ?_
      refine And.intro (obm_skip rfl rfl (fun _ => rfl)) ?_
      refine And.intro (obm_skip rfl rfl (fun _ => rfl)) ?_
      refine And.intro (obm_skip rfl rfl (fun _ => rfl)) ?_
      refine And.intro (obm_skip rfl rfl (fun _ => rfl)) ?_
      apply And.intro
      · apply obm_quiet
        case hg => rfl
        case hop =>
          intro ax wx h S hD hE hP hk K hK
          have e65 := hk.see 65 rfl rfl
          have e71 := hk.see 71 rfl rfl
          clear hk hD hE
          go_wp2_with fail
          all_goals first | exact hP | rfl
        case hst => exact fun h h' e => rfl
      apply And.intro
      · apply obm_quiet
        case hg => rfl
        case hop =>
          intro ax wx h S hD hE hP hk K hK
          have e72 := hk.see 72 rfl rfl
          clear hk hD hE
          go_wp2_with fail
          all_goals first | exact hP | rfl
        case hst => exact fun h h' e => rfl
      exact trivial
    intro w2 a2 h S hall hP HF
    have HM := Lib.hid hP.mod
    have HF2 := HF.keep [4]
    simp only [pick, look, laid5] at HF2
    refine wp_ret (HQ.out _ _ ?_ (HMW.out _ HM.out))
    rw [HS.out]
    exact HF2
  rcases hk : (yk == 3) with _ | _
  · have HR := Lib.hid (show sendL c ⟨xo, xa, xb⟩ = false by rw [HS.out]; simp only [if_true]; rw [hk]; rfl)
    apply sl_flow6 (N := 0) [some 54, some 55, some 56, some 57, some 58, some 59, some 60, some 61, some 62, some 63, some 64, some 65, some 66, some 67, some 68, some 69, some 70, some 71, some 72, some 4] [.quiet [] [], .quiet [] [], .quiet [] [], .quiet [] [], .quiet [] [], .quiet [] [], .quiet [] [], .quiet [] [], .quiet [] [], .quiet [] [], .quiet [] [], .quiet [] [], .quiet [] [], .quiet [] [], .quiet [] [], .quiet [] [], .quiet [] [], .quiet [] [], .quiet [] [], .quiet [] []] (PhK W (fun _ => undef)) [_, _, _, _, _, _, _, (fun _ => undef), (fun _ => undef), (fun _ => undef), _, _, (fun _ => undef), (fun _ => undef), (fun _ => undef), (fun _ => undef), (fun _ => undef), (fun _ => undef), _, _] HF
    case hm => kernel_rfl
    case hok => kernel_rfl
    case hfl => rfl
    case h0 => exact (fun h => HW.out ▸ PhK.init h)
    case hobs =>
      apply And.intro
      · apply obm_quiet
        case hg => rfl
        case hop =>
          intro ax wx h S hD hE hP hk K hK
          have e6 := hk.see 6 rfl rfl
          clear hk hD hE
          go_wp2_with fail
          all_goals first | exact hP | rfl
        case hst => exact fun h h' e => rfl
      apply And.intro
      · apply obm_quiet
        case hg => rfl
        case hop =>
          intro ax wx h S hD hE hP hk K hK
          have e54 := hk.see 54 rfl rfl
          clear hk hD hE
          go_wp2_with fail
          all_goals first | exact hP | rfl
        case hst => exact fun h h' e => rfl
      apply And.intro
      · apply obm_want
        case hg => rfl
        case hj => rfl
        case hv => exact fun _ => rfl
        case hop =>
          intro ax wx h S hD hE hP hk K hK
          have e5 := hk.see 5 rfl rfl
          clear hk hD hE
          go_wp2_with fail
          all_goals first | exact hP | rfl
        case hst => exact fun h h' e => rfl
      apply And.intro
      · apply obm_want
        case hg => rfl
        case hj => rfl
        case hv => exact fun _ => rfl
        case hop =>
          intro ax wx h S hD hE hP hk K hK
          have e56 := hk.see 56 rfl rfl
          clear hk hD hE
          obtain ⟨hb3, hb5⟩ := HFS.out _ hP.mod
          have l0 := hb5.cell 0
          simp only [List.getElem?_toArray, List.getElem?_cons_zero, List.getElem?_cons_succ] at l0
          clear hb3 hb5
          go_wp2_with fail
          all_goals first | exact hP | rfl
        case hst => exact fun h h' e => rfl
      apply And.intro
      · apply obm_want
        case hg => rfl
        case hj => rfl
        case hv => exact fun _ => rfl
        case hop =>
          intro ax wx h S hD hE hP hk K hK
          have e57 := hk.see 57 rfl rfl
          clear hk hD hE
          go_wp2_with fail
          all_goals first | exact hP | rfl
        case hst => exact fun h h' e => rfl
      apply And.intro
      · apply obm_quiet
        case hg => rfl
        case hop =>
          intro ax wx h S hD hE hP hk K hK
          have e55 := hk.see 55 rfl rfl
          have e58 := hk.see 58 rfl rfl
          clear hk hD hE
          go_wp2_with fail
          all_goals first | exact hP | rfl
        case hst => exact fun h h' e => rfl
      apply And.intro
      · apply obm_quiet
        case hg => rfl
        case hop =>
          intro ax wx h S hD hE hP hk K hK
          have e59 := hk.see 59 rfl rfl
          clear hk hD hE
          go_wp2_with fail
          all_goals first | exact hP | rfl
        case hst => exact fun h h' e => rfl
      refine And.intro (obm_skip rfl rfl (fun _ => rfl)) ?_
      refine And.intro (obm_skip rfl rfl (fun _ => rfl)) ?_
      refine And.intro (obm_skip rfl rfl (fun _ => rfl)) ?_
      apply And.intro
      · apply obm_quiet
        case hg => rfl
        case hop =>
          intro ax wx h S hD hE hP hk K hK
          have e60 := hk.see 60 rfl rfl
          have e63 := hk.see 63 rfl rfl
          clear hk hD hE
          go_wp2_with fail
          all_goals first | exact hP | rfl
        case hst => exact fun h h' e => rfl
      apply And.intro
      · apply obm_quiet
        case hg => rfl
        case hop =>
          intro ax wx h S hD hE hP hk K hK
          have e64 := hk.see 64 rfl rfl
          clear hk hD hE
          go_wp2_with fail
          all_goals first | exact hP | rfl
        case hst => exact fun h h' e => rfl
      refine And.intro (obm_skip rfl rfl (fun _ => rfl)) ?_
      refine And.intro (obm_skip rfl rfl (fun _ => rfl)) ?_
      refine And.intro (obm_skip rfl rfl (fun _ => rfl)) ?_
      refine And.intro (obm_skip rfl rfl (fun _ => rfl)) ?_
      refine And.intro (obm_skip rfl rfl (fun _ => rfl)) ?_
      refine And.intro (obm_skip rfl rfl (fun _ => rfl)) ?_
      apply And.intro
      · apply obm_quiet
        case hg => rfl
        case hop =>
          intro ax wx h S hD hE hP hk K hK
          have e65 := hk.see 65 rfl rfl
          have e71 := hk.see 71 rfl rfl
          clear hk hD hE
          go_wp2_with fail
          all_goals first | exact hP | rfl
        case hst => exact fun h h' e => rfl
      apply And.intro
      · apply obm_quiet
        case hg => rfl
        case hop =>
          intro ax wx h S hD hE hP hk K hK
          have e72 := hk.see 72 rfl rfl
          clear hk hD hE
          go_wp2_with fail
          all_goals first | exact hP | rfl
        case hst => exact fun h h' e => rfl
      exact trivial
    intro w2 a2 h S hall hP HF
    have HM := Lib.hid hP.mod
    have HF2 := HF.keep [4]
    simp only [pick, look, laid5] at HF2
    refine wp_ret (HQ.out _ _ ?_ (HMW.out _ HM.out))
    rw [HR.out]
    exact HF2
  rcases hb0 : decide (0 ≤ xb) with _ | _
  · have HR := Lib.hid (show sendL c ⟨xo, xa, xb⟩ = false by rw [HS.out]; simp only [if_true]; rw [hk, hb0]; rfl)
    apply sl_flow6 (N := 0) [some 54, some 55, some 56, some 57, some 58, some 59, some 60, some 61, some 62, some 63, some 64, some 65, some 66, some 67, some 68, some 69, some 70, some 71, some 72, some 4] [.quiet [] [], .quiet [] [], .quiet [] [], .quiet [] [], .quiet [] [], .quiet [] [], .quiet [] [], .quiet [] [], .quiet [] [], .quiet [] [], .quiet [] [], .quiet [] [], .quiet [] [], .quiet [] [], .quiet [] [], .quiet [] [], .quiet [] [], .quiet [] [], .quiet [] [], .quiet [] []] (PhK W (fun _ => undef)) [_, _, _, _, _, _, _, _, _, _, _, _, (fun _ => undef), (fun _ => undef), (fun _ => undef), (fun _ => undef), (fun _ => undef), (fun _ => undef), _, _] HF
    case hm => kernel_rfl
    case hok => kernel_rfl
    case hfl => rfl
    case h0 => exact (fun h => HW.out ▸ PhK.init h)
    case hobs =>
      apply And.intro
      · apply obm_quiet
        case hg => rfl
        case hop =>
          intro ax wx h S hD hE hP hk K hK
          have e6 := hk.see 6 rfl rfl
          clear hk hD hE
          go_wp2_with fail
          all_goals first | exact hP | rfl
        case hst => exact fun h h' e => rfl
      apply And.intro
      · apply obm_quiet
        case hg => rfl
        case hop =>
          intro ax wx h S hD hE hP hk K hK
          have e54 := hk.see 54 rfl rfl
          clear hk hD hE
          go_wp2_with fail
          all_goals first | exact hP | rfl
        case hst => exact fun h h' e => rfl
      apply And.intro
      · apply obm_want
        case hg => rfl
        case hj => rfl
        case hv => exact fun _ => rfl
        case hop =>
          intro ax wx h S hD hE hP hk K hK
          have e5 := hk.see 5 rfl rfl
          clear hk hD hE
          go_wp2_with fail
          all_goals first | exact hP | rfl
        case hst => exact fun h h' e => rfl
      apply And.intro
      · apply obm_want
        case hg => rfl
        case hj => rfl
        case hv => exact fun _ => rfl
        case hop =>
          intro ax wx h S hD hE hP hk K hK
          have e56 := hk.see 56 rfl rfl
          clear hk hD hE
          obtain ⟨hb3, hb5⟩ := HFS.out _ hP.mod
          have l0 := hb5.cell 0
          have i2 := hb3.cell 2
          simp only [List.getElem?_toArray, List.getElem?_cons_zero, List.getElem?_cons_succ] at l0 i2
          clear hb3 hb5
          go_wp2_with fail
          all_goals first | exact hP | rfl
        case hst => exact fun h h' e => rfl
      apply And.intro
      · apply obm_want
        case hg => rfl
        case hj => rfl
        case hv => exact fun _ => rfl
        case hop =>
          intro ax wx h S hD hE hP hk K hK
          have e57 := hk.see 57 rfl rfl
          clear hk hD hE
          go_wp2_with fail
          all_goals first | exact hP | rfl
        case hst => exact fun h h' e => rfl
      apply And.intro
      · apply obm_quiet
        case hg => rfl
        case hop =>
          intro ax wx h S hD hE hP hk K hK
          have e55 := hk.see 55 rfl rfl
          have e58 := hk.see 58 rfl rfl
          clear hk hD hE
          go_wp2_with fail
          all_goals first | exact hP | rfl
        case hst => exact fun h h' e => rfl
      apply And.intro
      · apply obm_quiet
        case hg => rfl
        case hop =>
          intro ax wx h S hD hE hP hk K hK
          have e59 := hk.see 59 rfl rfl
          clear hk hD hE
          go_wp2_with fail
          all_goals first | exact hP | rfl
        case hst => exact fun h h' e => rfl
      apply And.intro
      · apply obm_want
        case hg => rfl
        case hj => rfl
        case hv => exact fun _ => rfl
        case hop =>
          intro ax wx h S hD hE hP hk K hK
          have e3 := hk.see 3 rfl rfl
          clear hk hD hE
          go_wp2_with fail
          all_goals first | exact hP | rfl
        case hst => exact fun h h' e => rfl
      apply And.intro
      · apply obm_want
        case hg => rfl
        case hj => rfl
        case hv => exact fun _ => rfl
        case hop =>
          intro ax wx h S hD hE hP hk K hK
          have e61 := hk.see 61 rfl rfl
          clear hk hD hE
          obtain ⟨hb3, hb5⟩ := HFS.out _ hP.mod
          have l0 := hb5.cell 0
          have i2 := hb3.cell 2
          simp only [List.getElem?_toArray, List.getElem?_cons_zero, List.getElem?_cons_succ] at l0 i2
          clear hb3 hb5
          go_wp2_with fail
          all_goals first | exact hP | rfl
        case hst => exact fun h h' e => rfl
      apply And.intro
      · apply obm_want
        case hg => rfl
        case hj => rfl
        case hv => exact fun _ => rfl
        case hop =>
          intro ax wx h S hD hE hP hk K hK
          have e62 := hk.see 62 rfl rfl
          clear hk hD hE
          go_wp2_with fail
          all_goals first | exact hP | rfl
        case hst => exact fun h h' e => rfl
      apply And.intro
      · apply obm_quiet
        case hg => rfl
        case hop =>
          intro ax wx h S hD hE hP hk K hK
          have e60 := hk.see 60 rfl rfl
          have e63 := hk.see 63 rfl rfl
          clear hk hD hE
          go_wp2_with fail
          all_goals first | exact hP | rfl
        case hst => exact fun h h' e => rfl
      apply And.intro
      · apply obm_quiet
        case hg => rfl
        case hop =>
          intro ax wx h S hD hE hP hk K hK
          have e64 := hk.see 64 rfl rfl
          clear hk hD hE
          go_wp2_with fail
          all_goals first | exact hP | rfl
        case hst => exact fun h h' e => rfl
      refine And.intro (obm_skip rfl rfl (fun _ => rfl)) ?_
      refine And.intro (obm_skip rfl rfl (fun _ => rfl)) ?_
      refine And.intro (obm_skip rfl rfl (fun _ => rfl)) ?_
      refine And.intro (obm_skip rfl rfl (fun _ => rfl)) ?_
      refine And.intro (obm_skip rfl rfl (fun _ => rfl)) ?_
      refine And.intro (obm_skip rfl rfl (fun _ => rfl)) ?_
      apply And.intro
      · apply obm_quiet
        case hg => rfl
        case hop =>
          intro ax wx h S hD hE hP hk K hK
          have e65 := hk.see 65 rfl rfl
          have e71 := hk.see 71 rfl rfl
          clear hk hD hE
          go_wp2_with fail
          all_goals first | exact hP | rfl
        case hst => exact fun h h' e => rfl
      apply And.intro
      · apply obm_quiet
        case hg => rfl
        case hop =>
          intro ax wx h S hD hE hP hk K hK
          have e72 := hk.see 72 rfl rfl
          clear hk hD hE
          go_wp2_with fail
          all_goals first | exact hP | rfl
        case hst => exact fun h h' e => rfl
      exact trivial
    intro w2 a2 h S hall hP HF
    have HM := Lib.hid hP.mod
    have HF2 := HF.keep [4]
    simp only [pick, look, laid5] at HF2
    refine wp_ret (HQ.out _ _ ?_ (HMW.out _ HM.out))
    rw [HR.out]
    exact HF2
  · have HR := Lib.hid (show sendL c ⟨xo, xa, xb⟩ = (nmArgs yt == xb) by rw [HS.out]; simp only [if_true]; rw [hk, hb0]; rfl)
    have HC := Lib.hid (fun w => nmArgs_any yt (by have := HT.out rfl; omega) w)
    apply sl_flow6 (N := 1) [some 54, some 55, some 56, some 57, some 58, some 59, some 60, some 61, some 62, some 63, some 64, some 65, some 66, some 67, some 68, some 69, some 70, some 71, some 72, some 4] [.quiet [] [0], .quiet [] [0], .quiet [] [0], .quiet [] [0], .quiet [] [0], .quiet [] [0], .quiet [] [0], .quiet [] [0], .quiet [] [0], .quiet [] [0], .quiet [] [0], .quiet [] [0], .quiet [] [0], .quiet [] [0], .writes 0 [] [], .quiet [] [], .quiet [] [], .quiet [0] [], .quiet [0] [], .quiet [0] []] (PhK W (fun _ => .int .i64 (nmArgs yt))) [_, _, _, _, _, _, _, _, _, _, _, _, _, _, (fun h => h 0), _, _, _, _, _] HF
    case hm => kernel_rfl
    case hok => kernel_rfl
    case hfl => rfl
    case h0 => exact (fun h => HW.out ▸ PhK.init h)
    case hobs =>
      apply And.intro
      · apply obm_quiet
        case hg => rfl
        case hop =>
          intro ax wx h S hD hE hP hk K hK
          have e6 := hk.see 6 rfl rfl
          have n0 := hE 0 (by decide)
          clear hk hD hE
          go_wp2_with fail
          all_goals first | exact hP | rfl
        case hst => exact fun h h' e => rfl
      apply And.intro
      · apply obm_quiet
        case hg => rfl
        case hop =>
          intro ax wx h S hD hE hP hk K hK
          have e54 := hk.see 54 rfl rfl
          have n0 := hE 0 (by decide)
          clear hk hD hE
          go_wp2_with fail
          all_goals first | exact hP | rfl
        case hst => exact fun h h' e => rfl
      apply And.intro
      · apply obm_want
        case hg => rfl
        case hj => rfl
        case hv => exact fun _ => rfl
        case hop =>
          intro ax wx h S hD hE hP hk K hK
          have e5 := hk.see 5 rfl rfl
          have n0 := hE 0 (by decide)
          clear hk hD hE
          go_wp2_with fail
          all_goals first | exact hP | rfl
        case hst => exact fun h h' e => rfl
      apply And.intro
      · apply obm_want
        case hg => rfl
        case hj => rfl
        case hv => exact fun _ => rfl
        case hop =>
          intro ax wx h S hD hE hP hk K hK
          have e56 := hk.see 56 rfl rfl
          have n0 := hE 0 (by decide)
          clear hk hD hE
          obtain ⟨hb3, hb5⟩ := HFS.out _ hP.mod
          have l0 := hb5.cell 0
          have l2 := hb5.cell 2
          have i2 := hb3.cell 2
          simp only [List.getElem?_toArray, List.getElem?_cons_zero, List.getElem?_cons_succ] at l0 l2 i2
          clear hb3 hb5
          go_wp2_with fail
          all_goals first | exact hP | rfl
        case hst => exact fun h h' e => rfl
      apply And.intro
      · apply obm_want
        case hg => rfl
        case hj => rfl
        case hv => exact fun _ => rfl
        case hop =>
          intro ax wx h S hD hE hP hk K hK
          have e57 := hk.see 57 rfl rfl
          have n0 := hE 0 (by decide)
          clear hk hD hE
          go_wp2_with fail
          all_goals first | exact hP | rfl
        case hst => exact fun h h' e => rfl
      apply And.intro
      · apply obm_quiet
        case hg => rfl
        case hop =>
          intro ax wx h S hD hE hP hk K hK
          have e55 := hk.see 55 rfl rfl
          have e58 := hk.see 58 rfl rfl
          have n0 := hE 0 (by decide)
          clear hk hD hE
          go_wp2_with fail
          all_goals first | exact hP | rfl
        case hst => exact fun h h' e => rfl
      apply And.intro
      · apply obm_quiet
        case hg => rfl
        case hop =>
          intro ax wx h S hD hE hP hk K hK
          have e59 := hk.see 59 rfl rfl
          have n0 := hE 0 (by decide)
          clear hk hD hE
          go_wp2_with fail
          all_goals first | exact hP | rfl
        case hst => exact fun h h' e => rfl
      apply And.intro
      · apply obm_want
        case hg => rfl
        case hj => rfl
        case hv => exact fun _ => rfl
        case hop =>
          intro ax wx h S hD hE hP hk K hK
          have e3 := hk.see 3 rfl rfl
          have n0 := hE 0 (by decide)
          clear hk hD hE
          go_wp2_with fail
          all_goals first | exact hP | rfl
        case hst => exact fun h h' e => rfl
      apply And.intro
      · apply obm_want
        case hg => rfl
        case hj => rfl
        case hv => exact fun _ => rfl
        case hop =>
          intro ax wx h S hD hE hP hk K hK
          have e61 := hk.see 61 rfl rfl
          have n0 := hE 0 (by decide)
          clear hk hD hE
          obtain ⟨hb3, hb5⟩ := HFS.out _ hP.mod
          have l0 := hb5.cell 0
          have l2 := hb5.cell 2
          have i2 := hb3.cell 2
          simp only [List.getElem?_toArray, List.getElem?_cons_zero, List.getElem?_cons_succ] at l0 l2 i2
          clear hb3 hb5
          go_wp2_with fail
          all_goals first | exact hP | rfl
        case hst => exact fun h h' e => rfl
      apply And.intro
      · apply obm_want
        case hg => rfl
        case hj => rfl
        case hv => exact fun _ => rfl
        case hop =>
          intro ax wx h S hD hE hP hk K hK
          have e62 := hk.see 62 rfl rfl
          have n0 := hE 0 (by decide)
          clear hk hD hE
          go_wp2_with fail
          all_goals first | exact hP | rfl
        case hst => exact fun h h' e => rfl
      apply And.intro
      · apply obm_quiet
        case hg => rfl
        case hop =>
          intro ax wx h S hD hE hP hk K hK
          have e60 := hk.see 60 rfl rfl
          have e63 := hk.see 63 rfl rfl
          have n0 := hE 0 (by decide)
          clear hk hD hE
          go_wp2_with fail
          all_goals first | exact hP | rfl
        case hst => exact fun h h' e => rfl
      apply And.intro
      · apply obm_quiet
        case hg => rfl
        case hop =>
          intro ax wx h S hD hE hP hk K hK
          have e64 := hk.see 64 rfl rfl
          have n0 := hE 0 (by decide)
          clear hk hD hE
          go_wp2_with fail
          all_goals first | exact hP | rfl
        case hst => exact fun h h' e => rfl
      apply And.intro
      · apply obm_want
        case hg => rfl
        case hj => rfl
        case hv => exact fun _ => rfl
        case hop =>
          intro ax wx h S hD hE hP hk K hK
          have e5 := hk.see 5 rfl rfl
          have n0 := hE 0 (by decide)
          clear hk hD hE
          go_wp2_with fail
          all_goals first | exact hP | rfl
        case hst => exact fun h h' e => rfl
      apply And.intro
      · apply obm_want
        case hg => rfl
        case hj => rfl
        case hv => exact fun _ => rfl
        case hop =>
          intro ax wx h S hD hE hP hk K hK
          have e66 := hk.see 66 rfl rfl
          have n0 := hE 0 (by decide)
          clear hk hD hE
          obtain ⟨hb3, hb5⟩ := HFS.out _ hP.mod
          have l0 := hb5.cell 0
          have l2 := hb5.cell 2
          have i2 := hb3.cell 2
          simp only [List.getElem?_toArray, List.getElem?_cons_zero, List.getElem?_cons_succ] at l0 l2 i2
          clear hb3 hb5
          go_wp2_with fail
          all_goals first | exact hP | rfl
        case hst => exact fun h h' e => rfl
      refine And.intro (obm_writes_want rfl rfl (fun _ => rfl) ?op) ?_
      case op =>
        intro ax wx h S hD hE hS hP hk K hK
        have e67 := hk.see 67 rfl rfl
        clear hk hD hE
        dsimp only at e67
        have HP := Lib.hid hP
        clear hP
        go_wp2_with fail
        refine (HC.out _).mono ?_
        rintro e w' ⟨rfl, hm⟩
        exact hK _ _ (HP.out.step hm rfl)
      apply And.intro
      · apply obm_want
        case hg => rfl
        case hj => rfl
        case hv => exact fun _ => rfl
        case hop =>
          intro ax wx h S hD hE hP hk K hK
          have e3 := hk.see 3 rfl rfl
          clear hk hD hE
          go_wp2_with fail
          all_goals first | exact hP | rfl
        case hst => exact fun h h' e => rfl
      apply And.intro
      · apply obm_want
        case hg => rfl
        case hj => rfl
        case hv => exact fun _ => rfl
        case hop =>
          intro ax wx h S hD hE hP hk K hK
          have e69 := hk.see 69 rfl rfl
          clear hk hD hE
          obtain ⟨hb3, hb5⟩ := HFS.out _ hP.mod
          have l0 := hb5.cell 0
          have l2 := hb5.cell 2
          have i2 := hb3.cell 2
          simp only [List.getElem?_toArray, List.getElem?_cons_zero, List.getElem?_cons_succ] at l0 l2 i2
          clear hb3 hb5
          go_wp2_with fail
          all_goals first | exact hP | rfl
        case hst => exact fun h h' e => rfl
      apply And.intro
      · apply obm_want
        case hg => rfl
        case hj => rfl
        case hv => exact fun _ => rfl
        case hop =>
          intro ax wx h S hD hE hP hk K hK
          have e68 := hk.see 68 rfl rfl
          have e70 := hk.see 70 rfl rfl
          try dsimp only at e68
          have d0 := hD 0 (by decide)
          clear hk hD hE
          rw [hP.val 0 d0] at e68
          go_wp2_with fail
          all_goals first | exact hP | rfl
        case hst => exact fun h h' e => by first | rfl | simp only [e 0 (by decide)]
      apply And.intro
      · apply obm_quiet
        case hg => rfl
        case hop =>
          intro ax wx h S hD hE hP hk K hK
          have e65 := hk.see 65 rfl rfl
          have e71 := hk.see 71 rfl rfl
          try dsimp only at e71
          have d0 := hD 0 (by decide)
          clear hk hD hE
          go_wp2_with fail
          all_goals first | exact hP | rfl
        case hst => exact fun h h' e => by first | rfl | simp only [e 0 (by decide)]
      apply And.intro
      · apply obm_quiet
        case hg => rfl
        case hop =>
          intro ax wx h S hD hE hP hk K hK
          have e72 := hk.see 72 rfl rfl
          try dsimp only at e72
          have d0 := hD 0 (by decide)
          clear hk hD hE
          go_wp2_with fail
          all_goals first | exact hP | rfl
        case hst => exact fun h h' e => by first | rfl | simp only [e 0 (by decide)]
      exact trivial
    intro w2 a2 h S hall hP HF
    have HM := Lib.hid hP.mod
    have HF2 := HF.keep [4]
    simp only [pick, look, laid5] at HF2
    refine wp_ret (HQ.out _ _ ?_ (HMW.out _ HM.out))
    rw [HR.out]
    exact HF2

theorem mayF_plain {c : CodeT} {ar : List CodeT} {x : InsT} (h6 : x.op ≠ 6) (h7 : x.op ≠ 7) : mayF c ar x = mayL c ar.length x := if_neg (by omega)
theorem mayF_send {c : CodeT} {ar : List CodeT} {x : InsT} (h : x.op = 10 ∨ x.op = 11) : mayF c ar x = sendL c x := by
  rw [mayF_plain (by omega) (by omega)]
  unfold mayL sendL
  rw [if_neg (by omega), if_neg (by omega), if_neg (by omega), if_pos (by omega)]
  rcases litGet c x.a with _ | l <;> rfl

set_option maxHeartbeats 3200000 in
set_option maxRecDepth 100000 in
theorem kMayF_any {c : CodeT} {v : CodeV} {ar : List CodeT} {rows : List (List Value)} {A5 : Option Addr} {n5 c5 : Nat} (x : InsT) (w : World) (hf : ∀ w', Mod Nil w w' → CodeF w' c v) (hc : ∀ w', Mod Nil w w' → CodeC w' c (codeArr c v).toList)
    (hA : AroF w ar rows A5 n5 c5) (hn : n5 ≤ 20) (hT : ∀ l ∈ c.lits, l.text.length ≤ 2000000) (hx : x.ok) :
    Calls Tryd.prog 33 #[.agg (kArr c v A5 n5 c5), .agg #[.int .i64 x.op, .int .i64 x.a, .int .i64 x.b]] w fun e w' => e = .returned (.bool (mayF c ar x)) ∧ Mod Nil w w' := by
  by_cases hp : plainOp x.op
  · rw [mayF_plain hp.1 hp.2.1, ← hA.cnt]
    exact kMay_any c v A5 n5 c5 x w hf hT hp.1 hp.2.1 hp.2.2.1 hp.2.2.2
  have hcs : x.op = 10 ∨ x.op = 11 ∨ x.op = 6 ∨ x.op = 7 := by
    unfold plainOp at hp
    omega
  clear hp
  have hbk : Blk (w.alloc (.cells (kArr c v A5 n5 c5) 41)) w.heap.size 41 (kArr c v A5 n5 c5) := Blk.new _ _ _
  have hm1 := (Mod.refl Nil w).alloc (.cells (kArr c v A5 n5 c5) 41)
  have hbi : Blk ((w.alloc (.cells (kArr c v A5 n5 c5) 41)).alloc (.cells #[.int .i64 x.op, .int .i64 x.a, .int .i64 x.b] 33)) (w.alloc (.cells (kArr c v A5 n5 c5) 41)).heap.size 33 #[.int .i64 x.op, .int .i64 x.a, .int .i64 x.b] := Blk.new _ _ _
  have hm2 := hm1.alloc (.cells #[.int .i64 x.op, .int .i64 x.a, .int .i64 x.b] 33)
  have hbk2 := hbk.keep ((Mod.refl Nil (w.alloc (.cells (kArr c v A5 n5 c5) 41))).alloc (.cells #[.int .i64 x.op, .int .i64 x.a, .int .i64 x.b] 33)) id
  obtain ⟨g3, hg3⟩ : ∃ g3, g3 = (w.alloc (.cells (kArr c v A5 n5 c5) 41)).heap.size := ⟨_, rfl⟩
  have hg3' : w.heap.size + 1 = g3 := by rw [hg3]; simp
  rw [← hg3] at hbi
  have HB := Lib.hid hbk2
  have HI := Lib.hid hbi
  have HM := Lib.hid hm2
  have HC := Lib.hid hc
  have HA := Lib.hid hA
  have HT := Lib.hid hT
  have HX := Lib.hid hx
  have HL := Lib.hid (kLit_any c v A5 n5 c5 x.a _ (fun w' h => hf w' (hm2.trans h)))
  clear hbk hm1 hbi hm2 hbk2 hf hc hA hT hx hg3
  obtain ⟨o, xa, xb⟩ := x
  simp only at hcs
  refine sl_enter (n := 123) (fn := Tryd.f33) (c := mayBody) Tryd.func33 rfl rfl (by simp) fun ac HF => ?_
  conv => arg 2; whnf
  refine wp_seq (wp_region_lit ?_)
  refine sl_op HF rfl rfl (by decide) ?_; intro K hK; have e0 := HF.see 0 rfl; go_wp2_with fail; clear e0 HF; intro _ HF
  refine sl_op HF rfl rfl (by decide) ?_; intro K hK; have e1 := HF.see 1 rfl; go_wp2_with fail; clear e1 HF; intro _ HF
  refine sl_const HF rfl rfl (.inr rfl) (by decide) ?_; clear HF; intro _ HF
  generalize hW2 : (w.alloc (.cells (kArr c v A5 n5 c5) 41)).alloc (.cells #[.int .i64 o, .int .i64 xa, .int .i64 xb] 33) = w2 at *
  refine sl_nil (wp_seq (wp_region_lit ?_))
  obtain ⟨k0, k1, k2, k3, k4, k5, k6⟩ := k_boxed HB.out
  have i0 := HI.out.cell 0
  have i1 := HI.out.cell 1
  have i2 := HI.out.cell 2
  simp only [List.getElem?_toArray, List.getElem?_cons_zero, List.getElem?_cons_succ] at i0 i1 i2
  unfold kArr at HL
  refine sl_op HF rfl rfl (by decide) ?_; intro K hK; have e2 := HF.see 2 rfl; go_wp2_with fail; clear e2 HF; intro _ HF
  refine sl_op HF rfl rfl (by decide) ?_; intro K hK; have e3 := HF.see 3 rfl; go_wp2_with fail; clear e3 HF; intro _ HF
  refine sl_op HF rfl rfl (by decide) ?_; intro K hK; have e9 := HF.see 9 rfl; go_wp2_with fail; clear e9 HF; intro _ HF
  refine sl_op HF rfl rfl (by decide) ?_; intro K hK; have e8 := HF.see 8 rfl; have e10 := HF.see 10 rfl; go_wp2_with fail
  refine HL.out.mono ?_
  rintro e w3 ⟨rfl, hm⟩
  have HB3 := Lib.hid (HB.out.keep hm id)
  have HI3 := Lib.hid (HI.out.keep hm id)
  have HM3 := Lib.hid (HM.out.trans hm)
  clear HB HI HM HL k0 k1 k2 k3 k4 k5 k6 i0 i1 i2 hm hW2
  obtain ⟨y, hy⟩ : ∃ y, (litGet c xa).getD lit0 = y := ⟨_, rfl⟩
  obtain ⟨t, ht⟩ : ∃ t, (litGet c xa).isSome = t := ⟨_, rfl⟩
  have HLG := Lib.hid (show litGet c xa = if t then some y else none by
    rcases h : litGet c xa with _ | z
    · rw [h] at ht
      subst ht
      rfl
    · rw [h] at ht hy
      subst ht hy
      rfl)
  have HTX := Lib.hid (show t = true → y.text.length ≤ 2000000 by
    intro h
    have := HLG.out
    rw [if_pos h] at this
    unfold litGet at this
    split at this
    · exact HT.out _ (List.mem_of_getElem? this)
    · cases this)
  rw [hy, ht]
  clear hy ht
  go_wp2_with fail; clear e8 e10 HF; intro _ HF
  refine sl_move HF rfl rfl (.inl rfl) (by decide) rfl ?_; clear HF; intro _ HF
  refine sl_op HF rfl rfl (by decide) ?_; intro K hK; have e7 := HF.see 7 rfl; go_wp2_with fail; clear e7 HF; intro _ HF
  refine sl_op HF rfl rfl (by decide) ?_; intro K hK; have e7 := HF.see 7 rfl; go_wp2_with fail; clear e7 HF; intro _ HF
  refine sl_op HF rfl rfl (by decide) ?_; intro K hK; go_wp2_with fail; clear HF; intro _ HF
  have hz : Blk (w3.alloc (.cells litZ 45)) w3.heap.size 45 litZ := Blk.new _ _ _
  obtain ⟨hk0, hk1, hk2, hf0, hf1, hf2⟩ := lit_facts hz
  have hm4 := (Mod.refl Nil w3).alloc (.cells litZ 45)
  unfold litZ at hk0 hk1 hk2 hf0 hf1 hf2
  unfold litA at HF
  refine sl_op0 HF rfl rfl ?_; intro K hK; have e5 := HF.see 5 rfl; have e12 := HF.see 12 rfl; go_wp2_with fail; clear e5 e12 HF; intro _ HF
  refine sl_move HF rfl rfl (.inr rfl) (by decide) rfl ?_; clear HF; intro _ HF
  clear hz hk0 hk1 hk2 hf0 hf1 hf2 hm4
  have hl4 : Blk (w3.alloc (.cells (litA y) 45)) w3.heap.size 45 (litA y) := Blk.new _ _ _
  have hm4 := (Mod.refl Nil w3).alloc (.cells (litA y) 45)
  have HB4 := Lib.hid (HB3.out.keep hm4 id)
  have HI4 := Lib.hid (HI3.out.keep hm4 id)
  have HM4 := Lib.hid (HM3.out.trans hm4)
  have HL4 := Lib.hid hl4
  clear hl4 hm4 HB3 HI3 HM3 HT
  refine sl_nil (wp_seq (wp_seq (wp_region_lit ?_)))
  change wpList _ _ _ _ _ (w3.alloc (.cells (litA y) 45))
  generalize w3.alloc (.cells (litA y) 45) = w4 at HB4 HI4 HM4 HL4 ⊢
  generalize w3.heap.size = g5 at HL4 HF
  have i0 := HI4.out.cell 0
  have i1 := HI4.out.cell 1
  have i2 := HI4.out.cell 2
  simp only [List.getElem?_toArray, List.getElem?_cons_zero, List.getElem?_cons_succ] at i0 i1 i2
  refine sl_op HF rfl rfl (by decide) ?_; intro K hK; have e3 := HF.see 3 rfl; go_wp2_with fail; clear e3 HF; intro _ HF
  refine sl_op HF rfl rfl (by decide) ?_; intro K hK; have e14 := HF.see 14 rfl; go_wp2_with fail; clear e14 HF; intro _ HF
  rcases hcs with rfl | rfl | rfl | rfl
  · refine sl_nil (wp_block (wp_seq (wp_region_lit ?_)))
    refine sl_op HF rfl rfl (by decide) ?_; intro K hK; have e15 := HF.see 15 rfl; go_wp2_with fail; clear e15 HF; intro _ HF
    refine sl_move HF rfl rfl (.inr rfl) (by decide) rfl ?_; clear HF; intro _ HF
    refine sl_nil (wp_cond_false (HF.at 16 rfl) (wp_seq (wp_region_lit ?_)))
    refine sl_op HF rfl rfl (by decide) ?_; intro K hK; have e15 := HF.see 15 rfl; go_wp2_with fail; clear e15 HF; intro _ HF
    refine sl_move HF rfl rfl (.inr rfl) (by decide) rfl ?_; clear HF; intro _ HF
    refine sl_nil (wp_cond_false (HF.at 24 rfl) (wp_seq (wp_seq (wp_region_lit ?_))))
    refine sl_op HF rfl rfl (by decide) ?_; intro K hK; have e15 := HF.see 15 rfl; go_wp2_with fail; clear e15 HF; intro _ HF
    refine sl_move HF rfl rfl (.inr rfl) (by decide) rfl ?_; clear HF; intro _ HF
    refine sl_nil (wp_cond_false (HF.at 37 rfl) (wp_region_lit ?_))
    refine sl_op HF rfl rfl (by decide) ?_; intro K hK; have e15 := HF.see 15 rfl; go_wp2_with fail; clear e15 HF; intro _ HF
    refine sl_move HF rfl rfl (.inr rfl) (by decide) rfl ?_; clear HF; intro _ HF
    refine sl_nil (wp_cond_false (HF.at 37 rfl) (wp_seq (wp_seq (wp_region_lit ?_))))
    refine sl_op HF rfl rfl (by decide) ?_; intro K hK; have e15 := HF.see 15 rfl; go_wp2_with fail; clear e15 HF; intro _ HF
    refine sl_move HF rfl rfl (.inr rfl) (by decide) rfl ?_; clear HF; intro _ HF
    refine sl_nil (wp_cond_true (HF.at 51 rfl) (wp_skip (sl_then ?_)))
    have HF2 := HF.keep [2, 3, 5, 6, 51]
    simp only [pick, look, argL] at HF2
    refine may_send (c := c) (x := ⟨10, xa, xb⟩) HF2 HI4.out HL4.out HLG.out HTX.out fun a' w' HF hm => ?_
    dsimp only [Exit.then, Exit.inBlock]
    exact sl_ret1 HF rfl rfl ⟨ret_bool (by rw [mayF_send (by simp)]), HM4.out.trans hm⟩
  · refine sl_nil (wp_block (wp_seq (wp_region_lit ?_)))
    refine sl_op HF rfl rfl (by decide) ?_; intro K hK; have e15 := HF.see 15 rfl; go_wp2_with fail; clear e15 HF; intro _ HF
    refine sl_move HF rfl rfl (.inr rfl) (by decide) rfl ?_; clear HF; intro _ HF
    refine sl_nil (wp_cond_false (HF.at 16 rfl) (wp_seq (wp_region_lit ?_)))
    refine sl_op HF rfl rfl (by decide) ?_; intro K hK; have e15 := HF.see 15 rfl; go_wp2_with fail; clear e15 HF; intro _ HF
    refine sl_move HF rfl rfl (.inr rfl) (by decide) rfl ?_; clear HF; intro _ HF
    refine sl_nil (wp_cond_false (HF.at 24 rfl) (wp_seq (wp_seq (wp_region_lit ?_))))
    refine sl_op HF rfl rfl (by decide) ?_; intro K hK; have e15 := HF.see 15 rfl; go_wp2_with fail; clear e15 HF; intro _ HF
    refine sl_move HF rfl rfl (.inr rfl) (by decide) rfl ?_; clear HF; intro _ HF
    refine sl_nil (wp_cond_false (HF.at 37 rfl) (wp_region_lit ?_))
    refine sl_op HF rfl rfl (by decide) ?_; intro K hK; have e15 := HF.see 15 rfl; go_wp2_with fail; clear e15 HF; intro _ HF
    refine sl_move HF rfl rfl (.inr rfl) (by decide) rfl ?_; clear HF; intro _ HF
    refine sl_nil (wp_cond_false (HF.at 37 rfl) (wp_seq (wp_seq (wp_region_lit ?_))))
    refine sl_op HF rfl rfl (by decide) ?_; intro K hK; have e15 := HF.see 15 rfl; go_wp2_with fail; clear e15 HF; intro _ HF
    refine sl_move HF rfl rfl (.inr rfl) (by decide) rfl ?_; clear HF; intro _ HF
    refine sl_nil (wp_cond_false (HF.at 51 rfl) (wp_region_lit ?_))
    refine sl_op HF rfl rfl (by decide) ?_; intro K hK; have e15 := HF.see 15 rfl; go_wp2_with fail; clear e15 HF; intro _ HF
    refine sl_move HF rfl rfl (.inr rfl) (by decide) rfl ?_; clear HF; intro _ HF
    refine sl_nil ?_
    have HF2 := HF.keep [2, 3, 5, 6, 51]
    simp only [pick, look, argL] at HF2
    refine may_send (c := c) (x := ⟨11, xa, xb⟩) HF2 HI4.out HL4.out HLG.out HTX.out fun a' w' HF hm => ?_
    dsimp only [Exit.then, Exit.inBlock]
    exact sl_ret1 HF rfl rfl ⟨ret_bool (by rw [mayF_send (by simp)]), HM4.out.trans hm⟩
  · refine sl_nil (wp_block (wp_seq (wp_region_lit ?_)))
    refine sl_op HF rfl rfl (by decide) ?_; intro K hK; have e15 := HF.see 15 rfl; go_wp2_with fail; clear e15 HF; intro _ HF
    refine sl_move HF rfl rfl (.inr rfl) (by decide) rfl ?_; clear HF; intro _ HF
    refine sl_nil (wp_cond_false (HF.at 16 rfl) (wp_seq (wp_region_lit ?_)))
    refine sl_op HF rfl rfl (by decide) ?_; intro K hK; have e15 := HF.see 15 rfl; go_wp2_with fail; clear e15 HF; intro _ HF
    refine sl_move HF rfl rfl (.inr rfl) (by decide) rfl ?_; clear HF; intro _ HF
    refine sl_nil (wp_cond_false (HF.at 24 rfl) (wp_seq (wp_seq (wp_region_lit ?_))))
    refine sl_op HF rfl rfl (by decide) ?_; intro K hK; have e15 := HF.see 15 rfl; go_wp2_with fail; clear e15 HF; intro _ HF
    refine sl_move HF rfl rfl (.inr rfl) (by decide) rfl ?_; clear HF; intro _ HF
    refine sl_nil (wp_cond_false (HF.at 37 rfl) (wp_region_lit ?_))
    refine sl_op HF rfl rfl (by decide) ?_; intro K hK; have e15 := HF.see 15 rfl; go_wp2_with fail; clear e15 HF; intro _ HF
    refine sl_move HF rfl rfl (.inr rfl) (by decide) rfl ?_; clear HF; intro _ HF
    refine sl_nil (wp_cond_false (HF.at 37 rfl) (wp_seq (wp_seq (wp_region_lit ?_))))
    refine sl_op HF rfl rfl (by decide) ?_; intro K hK; have e15 := HF.see 15 rfl; go_wp2_with fail; clear e15 HF; intro _ HF
    refine sl_move HF rfl rfl (.inr rfl) (by decide) rfl ?_; clear HF; intro _ HF
    refine sl_nil (wp_cond_false (HF.at 51 rfl) (wp_region_lit ?_))
    refine sl_op HF rfl rfl (by decide) ?_; intro K hK; have e15 := HF.see 15 rfl; go_wp2_with fail; clear e15 HF; intro _ HF
    refine sl_move HF rfl rfl (.inr rfl) (by decide) rfl ?_; clear HF; intro _ HF
    refine sl_nil (wp_cond_false (HF.at 51 rfl) (wp_seq (wp_seq (wp_region_lit ?_))))
    refine sl_op HF rfl rfl (by decide) ?_; intro K hK; have e15 := HF.see 15 rfl; go_wp2_with fail; clear e15 HF; intro _ HF
    refine sl_move HF rfl rfl (.inr rfl) (by decide) rfl ?_; clear HF; intro _ HF
    refine sl_nil (wp_cond_true (HF.at 73 rfl) (wp_skip (sl_then (wp_cond_true (HF.at 73 rfl) (wp_seq (wp_region_lit ?_))))))
    obtain ⟨k0, k1, k2, k3, k4, k5, k6⟩ := k_boxed HB4.out
    have HV := Lib.hid (variable_any (v := v) xa xb false w4 HX.out.2.1 (fun w' h => HC.out w' (HM4.out.trans h)) (HA.out.keep HM4.out) hn)
    unfold kArr at HV
    refine sl_op HF rfl rfl (by decide) ?_; intro K hK; have e2 := HF.see 2 rfl; go_wp2_with fail; clear e2 HF; intro _ HF
    refine sl_op HF rfl rfl (by decide) ?_; intro K hK; have e3 := HF.see 3 rfl; go_wp2_with fail; clear e3 HF; intro _ HF
    refine sl_op HF rfl rfl (by decide) ?_; intro K hK; have e77 := HF.see 77 rfl; go_wp2_with fail; clear e77 HF; intro _ HF
    refine sl_op HF rfl rfl (by decide) ?_; intro K hK; have e3 := HF.see 3 rfl; go_wp2_with fail; clear e3 HF; intro _ HF
    refine sl_op HF rfl rfl (by decide) ?_; intro K hK; have e79 := HF.see 79 rfl; go_wp2_with fail; clear e79 HF; intro _ HF
    refine sl_op HF rfl rfl (by decide) ?_; intro K hK; have e3 := HF.see 3 rfl; go_wp2_with fail; clear e3 HF; intro _ HF
    refine sl_op HF rfl rfl (by decide) ?_; intro K hK; have e81 := HF.see 81 rfl; go_wp2_with fail; clear e81 HF; intro _ HF
    refine sl_op HF rfl rfl (by decide) ?_; intro K hK; have e82 := HF.see 82 rfl; go_wp2_with fail; clear e82 HF; intro _ HF
    refine sl_op HF rfl rfl (by decide) ?_; intro K hK; have e76 := HF.see 76 rfl; have e78 := HF.see 78 rfl; have e80 := HF.see 80 rfl; have e83 := HF.see 83 rfl; go_wp2_with fail
    refine HV.out.mono ?_
    rintro e w5 ⟨rfl, hm5⟩
    have HM5 := Lib.hid (HM4.out.trans hm5)
    clear hm5
    go_wp2_with fail; clear e76 e78 e80 e83 HF; intro _ HF
    refine sl_move HF rfl rfl (.inr rfl) (by decide) rfl ?_; clear HF; intro _ HF
    refine sl_nil (wp_ret ?_)
    dsimp only [Exit.then, Exit.inBlock]
    exact sl_ret1 HF rfl rfl ⟨ret_bool rfl, HM5.out⟩
  · refine sl_nil (wp_block (wp_seq (wp_region_lit ?_)))
    refine sl_op HF rfl rfl (by decide) ?_; intro K hK; have e15 := HF.see 15 rfl; go_wp2_with fail; clear e15 HF; intro _ HF
    refine sl_move HF rfl rfl (.inr rfl) (by decide) rfl ?_; clear HF; intro _ HF
    refine sl_nil (wp_cond_false (HF.at 16 rfl) (wp_seq (wp_region_lit ?_)))
    refine sl_op HF rfl rfl (by decide) ?_; intro K hK; have e15 := HF.see 15 rfl; go_wp2_with fail; clear e15 HF; intro _ HF
    refine sl_move HF rfl rfl (.inr rfl) (by decide) rfl ?_; clear HF; intro _ HF
    refine sl_nil (wp_cond_false (HF.at 24 rfl) (wp_seq (wp_seq (wp_region_lit ?_))))
    refine sl_op HF rfl rfl (by decide) ?_; intro K hK; have e15 := HF.see 15 rfl; go_wp2_with fail; clear e15 HF; intro _ HF
    refine sl_move HF rfl rfl (.inr rfl) (by decide) rfl ?_; clear HF; intro _ HF
    refine sl_nil (wp_cond_false (HF.at 37 rfl) (wp_region_lit ?_))
    refine sl_op HF rfl rfl (by decide) ?_; intro K hK; have e15 := HF.see 15 rfl; go_wp2_with fail; clear e15 HF; intro _ HF
    refine sl_move HF rfl rfl (.inr rfl) (by decide) rfl ?_; clear HF; intro _ HF
    refine sl_nil (wp_cond_false (HF.at 37 rfl) (wp_seq (wp_seq (wp_region_lit ?_))))
    refine sl_op HF rfl rfl (by decide) ?_; intro K hK; have e15 := HF.see 15 rfl; go_wp2_with fail; clear e15 HF; intro _ HF
    refine sl_move HF rfl rfl (.inr rfl) (by decide) rfl ?_; clear HF; intro _ HF
    refine sl_nil (wp_cond_false (HF.at 51 rfl) (wp_region_lit ?_))
    refine sl_op HF rfl rfl (by decide) ?_; intro K hK; have e15 := HF.see 15 rfl; go_wp2_with fail; clear e15 HF; intro _ HF
    refine sl_move HF rfl rfl (.inr rfl) (by decide) rfl ?_; clear HF; intro _ HF
    refine sl_nil (wp_cond_false (HF.at 51 rfl) (wp_seq (wp_seq (wp_region_lit ?_))))
    refine sl_op HF rfl rfl (by decide) ?_; intro K hK; have e15 := HF.see 15 rfl; go_wp2_with fail; clear e15 HF; intro _ HF
    refine sl_move HF rfl rfl (.inr rfl) (by decide) rfl ?_; clear HF; intro _ HF
    refine sl_nil (wp_cond_false (HF.at 73 rfl) (wp_region_lit ?_))
    refine sl_op HF rfl rfl (by decide) ?_; intro K hK; have e15 := HF.see 15 rfl; go_wp2_with fail; clear e15 HF; intro _ HF
    refine sl_move HF rfl rfl (.inr rfl) (by decide) rfl ?_; clear HF; intro _ HF
    refine sl_nil (wp_cond_true (HF.at 73 rfl) (wp_seq (wp_region_lit ?_)))
    obtain ⟨k0, k1, k2, k3, k4, k5, k6⟩ := k_boxed HB4.out
    have HV := Lib.hid (variable_any (v := v) xa xb true w4 HX.out.2.1 (fun w' h => HC.out w' (HM4.out.trans h)) (HA.out.keep HM4.out) hn)
    unfold kArr at HV
    refine sl_op HF rfl rfl (by decide) ?_; intro K hK; have e2 := HF.see 2 rfl; go_wp2_with fail; clear e2 HF; intro _ HF
    refine sl_op HF rfl rfl (by decide) ?_; intro K hK; have e3 := HF.see 3 rfl; go_wp2_with fail; clear e3 HF; intro _ HF
    refine sl_op HF rfl rfl (by decide) ?_; intro K hK; have e77 := HF.see 77 rfl; go_wp2_with fail; clear e77 HF; intro _ HF
    refine sl_op HF rfl rfl (by decide) ?_; intro K hK; have e3 := HF.see 3 rfl; go_wp2_with fail; clear e3 HF; intro _ HF
    refine sl_op HF rfl rfl (by decide) ?_; intro K hK; have e79 := HF.see 79 rfl; go_wp2_with fail; clear e79 HF; intro _ HF
    refine sl_op HF rfl rfl (by decide) ?_; intro K hK; have e3 := HF.see 3 rfl; go_wp2_with fail; clear e3 HF; intro _ HF
    refine sl_op HF rfl rfl (by decide) ?_; intro K hK; have e81 := HF.see 81 rfl; go_wp2_with fail; clear e81 HF; intro _ HF
    refine sl_op HF rfl rfl (by decide) ?_; intro K hK; have e82 := HF.see 82 rfl; go_wp2_with fail; clear e82 HF; intro _ HF
    refine sl_op HF rfl rfl (by decide) ?_; intro K hK; have e76 := HF.see 76 rfl; have e78 := HF.see 78 rfl; have e80 := HF.see 80 rfl; have e83 := HF.see 83 rfl; go_wp2_with fail
    refine HV.out.mono ?_
    rintro e w5 ⟨rfl, hm5⟩
    have HM5 := Lib.hid (HM4.out.trans hm5)
    clear hm5
    go_wp2_with fail; clear e76 e78 e80 e83 HF; intro _ HF
    refine sl_move HF rfl rfl (.inr rfl) (by decide) rfl ?_; clear HF; intro _ HF
    refine sl_nil (wp_ret ?_)
    dsimp only [Exit.then, Exit.inBlock]
    exact sl_ret1 HF rfl rfl ⟨ret_bool rfl, HM5.out⟩
end Go.Proofs.YtefloadjolpgbaaDoor

namespace Go.Proofs.YtefloadjolpgbaaDoor
open Go.RowKit

/-- What the checker knows. -/
structure KF (w : World) (c : CodeT) (v : CodeV) (ar : List CodeT) (rows : List (List Value)) (A5 : Option Addr) (n5 c5 : Nat) : Prop where
  kf : ∀ w', Mod Nil w w' → CodeF w' c v
  kc : CodeC w c (codeArr c v).toList
  ka : AroF w ar rows A5 n5 c5
  kn : n5 ≤ 20
  kt : ∀ l ∈ c.lits, l.text.length ≤ 2000000
theorem KF.keep {w w' : World} {c : CodeT} {v : CodeV} {ar : List CodeT} {rows : List (List Value)} {A5 : Option Addr} {n5 c5 : Nat} (h : KF w c v ar rows A5 n5 c5) (hm : Mod Nil w w') : KF w' c v ar rows A5 n5 c5 :=
  ⟨fun w2 h2 => h.kf w2 (hm.trans h2), h.kc.keep hm, h.ka.keep hm, h.kn, h.kt⟩

set_option maxHeartbeats 1600000 in
set_option maxRecDepth 100000 in
theorem right1F_any {c : CodeT} {v : CodeV} {ar : List CodeT} {rows : List (List Value)} {A5 : Option Addr} {n5 c5 : Nat} (g : Nat) (x : InsT) (w : World) (hf : KF w c v ar rows A5 n5 c5) (hx : x.ok)
    (hb : Blk w g 41 (kArr c v A5 n5 c5)) :
    Calls Tryd.prog 32 #[.agg #[.int .i64 x.op, .int .i64 x.a, .int .i64 x.b], .pointer (some ⟨g, 0, none⟩)] w fun e w' => e = .returned (.bool (!mayF c ar x)) ∧ Mod Nil w w' := by
  have hm1 := (Mod.refl Nil w).alloc (.cells #[.int .i64 x.op, .int .i64 x.a, .int .i64 x.b] 33)
  have hb1 := hb.keep hm1 id
  obtain ⟨c0, c1, c2, c3, c4, c5', c6⟩ := k_boxed hb1
  obtain ⟨i0, i1, i2⟩ := ins_boxed w x.op x.a x.b
  have HK := Lib.hid (kMayF_any x _ (hf.keep hm1).kf (fun w' h => ((hf.keep hm1).keep h).kc) (hf.keep hm1).ka hf.kn hf.kt hx)
  have HM := Lib.hid hm1
  clear hb1 hm1 hf hx hb
  unfold kArr at HK
  go_enter Tryd.func32, Tryd.ntmps32
  go_wp2_with fail
  refine HK.out.mono ?_
  rintro e w2 ⟨rfl, hm⟩
  have HM2 := Lib.hid (HM.out.trans hm)
  clear hm
  go_wp2_with fail
  go_ret
  exact ⟨rfl, HM2.out⟩

set_option maxHeartbeats 1600000 in
set_option maxRecDepth 100000 in
theorem insIndexF_any {c : CodeT} {v : CodeV} {ar : List CodeT} {rows : List (List Value)} {A5 : Option Addr} {n5 c5 : Nat} (g : Nat) (A : Option Addr) (n cap : Nat) (ps : List InsT) (w : World) (hf : KF w c v ar rows A5 n5 c5) (hx : ∀ x ∈ ps, x.ok)
    (hb : Blk w g 41 (kArr c v A5 n5 c5)) (hn : ps.length = n) (hbig : n ≤ 20000) (hr : Rd All w A (ps.flatMap insC)) :
    Calls Tryd.prog 50 #[.slice A n cap, kFn g] w fun r w' => ∃ i : Int, r = .returned (.int .i64 i) ∧ (0 ≤ i ↔ ps.any (fun x => !mayF c ar x) = true) ∧ Mod Nil w w' := by
  have HR := Lib.hid hr
  have HF := Lib.hid hf
  have HX := Lib.hid hx
  have HB := Lib.hid hb
  clear hr hf hx hb
  unfold kFn
  go_enter Tryd.func50, Tryd.ntmps50
  go_wp2_with fail
  go_loopw [8] (fun i wr => ∃ (k : Nat), k ≤ n ∧ i = .int .i64 k ∧ (∀ j p, j < k → ps[j]? = some p → mayF c ar p = true) ∧ Mod Nil w wr) (fun v _ => n - (intOf v).toNat)
  case atStart => exact ⟨0, Nat.zero_le _, rfl, fun j i hj => absurd hj (by omega), Mod.refl _ _⟩
  case round =>
    obtain ⟨k, hk, rfl, hno, hm⟩ := hrel
    have HNO := Lib.hid hno
    have HM := Lib.hid hm
    clear hno hm
    by_cases hlt : k < n
    · obtain ⟨p, hp⟩ : ∃ p, ps[k]? = some p := ⟨_, List.getElem?_eq_getElem (by omega)⟩
      obtain ⟨ad, rfl, hadl, a0, a1, a2⟩ := eqIns_at (HR.out.keep0 HM.out) hp
      have HC := Lib.hid (right1F_any g p _ (HF.out.keep HM.out) (HX.out p (List.mem_of_getElem? hp)) (HB.out.keep HM.out id))
      have hbad : mayF c ar p = false → ps.any (fun x => !mayF c ar x) = true := fun h => by
        rw [List.any_eq_true]
        exact ⟨p, List.mem_of_getElem? hp, by simp [h]⟩
      have hgood : mayF c ar p = true → ∀ j q, j < k + 1 → ps[j]? = some q → mayF c ar q = true := fun h j q hj hq => by
        rcases Nat.lt_or_ge j k with h1 | h1
        · exact HNO.out j q h1 hq
        · have : j = k := by omega
          subst this
          rw [hp] at hq
          cases hq
          exact h
      have HBD := Lib.hid hbad
      have HG := Lib.hid hgood
      clear hbad hgood hp hn
      go_wp2_with fail
      refine HC.out.mono ?_
      rintro e w2 ⟨rfl, hm⟩
      have HM2 := Lib.hid (HM.out.trans hm)
      clear hm
      rcases hb : mayF c ar p with _ | _
      · have HX := Lib.hid (HBD.out hb)
        clear hb
        go_wp2_with fail
        go_ret
        exact ⟨_, rfl, ⟨fun _ => HX.out, fun _ => by omega⟩, HM2.out⟩
      · have HX := Lib.hid (HG.out hb)
        clear hb
        go_wp2_with fail
        refine ⟨⟨k + 1, hlt, rfl, HX.out, HM2.out⟩, ?_⟩
        simp [intOf]
        omega
    · have HX := Lib.hid (show ps.any (fun x => !mayF c ar x) = false by
        rw [List.any_eq_false]
        intro p hp
        obtain ⟨j, hj⟩ := List.getElem?_of_mem hp
        have := (List.getElem?_eq_some_iff.1 hj).1
        simp [HNO.out j p (by omega) hj])
      go_wp2_with fail
      go_ret
      exact ⟨_, rfl, by rw [HX.out]; simp, HM.out⟩

set_option maxHeartbeats 400000 in
set_option maxRecDepth 100000 in
theorem insContainsF_any {c : CodeT} {v : CodeV} {ar : List CodeT} {rows : List (List Value)} {A5 : Option Addr} {n5 c5 : Nat} (g : Nat) (A : Option Addr) (n cap : Nat) (ps : List InsT) (w : World) (hf : KF w c v ar rows A5 n5 c5) (hx : ∀ x ∈ ps, x.ok)
    (hb : Blk w g 41 (kArr c v A5 n5 c5)) (hn : ps.length = n) (hbig : n ≤ 20000) (hr : Rd All w A (ps.flatMap insC)) :
    Calls Tryd.prog 31 #[.slice A n cap, kFn g] w fun r w' => r = .returned (.bool (ps.any fun x => !mayF c ar x)) ∧ Mod Nil w w' := by
  have HI := Lib.hid (insIndexF_any g A n cap ps w hf hx hb hn hbig hr)
  unfold kFn at HI ⊢
  clear hr hf hx hb
  go_enter Tryd.func31, Tryd.ntmps31
  go_wp2_with fail
  refine HI.out.mono ?_
  rintro e w2 ⟨i, rfl, hi, hm⟩
  have HM := Lib.hid hm
  have HIF := Lib.hid hi
  clear hm hi
  go_wp2_with fail
  go_ret
  refine ⟨ret_bool ?_, HM.out⟩
  have := HIF.out
  rw [Bool.eq_iff_iff]
  simpa using this
end Go.Proofs.YtefloadjolpgbaaDoor

namespace Go.Proofs.YtefloadjolpgbaaDoor
open Go.RowKit

/-- What is asked ahead of the heights. -/
structure PreP (c : CodeT) (ar : List CodeT) : Prop where
  a0 : 0 ≤ c.args
  av : c.args ≤ c.vars
  v60 : c.vars ≤ 60
  l4 : c.lits.length ≤ 4000
  lg : c.lits.any litBad = false
  i1 : 1 ≤ c.ins.length
  i2 : c.ins.length ≤ 20000
  b4 : c.blocks.length ≤ 4000
  r20 : ar.length ≤ 20
  top : ar = [] → nmClass c.cls = true
  inn : ar ≠ [] → c.cls = []
  may : ∀ x ∈ c.ins, mayF c ar x = true

inductive RightP : CodeT → List CodeT → Prop
  | mk (c : CodeT) (ar : List CodeT) (pre : PreP c ar) (fit : ∃ f, Fits c.ins f) (blk : ∀ b ∈ c.blocks, RightP b (ar ++ [c])) : RightP c ar
theorem RightP.pre {c : CodeT} {ar : List CodeT} (h : RightP c ar) : PreP c ar := by cases h; assumption
theorem RightP.fit {c : CodeT} {ar : List CodeT} (h : RightP c ar) : ∃ f, Fits c.ins f := by cases h; assumption
theorem RightP.blk {c : CodeT} {ar : List CodeT} (h : RightP c ar) : ∀ b ∈ c.blocks, RightP b (ar ++ [c]) := by cases h; assumption

/-- Texts are not too long. -/
inductive TxtP : CodeT → Prop
  | mk (c : CodeT) (h : ∀ l ∈ c.lits, l.text.length ≤ 2000000) (hc : c.cls.length ≤ 2000000) (b : ∀ b ∈ c.blocks, TxtP b) : TxtP c
theorem TxtP.lits {c : CodeT} (h : TxtP c) : ∀ l ∈ c.lits, l.text.length ≤ 2000000 := by cases h; assumption
theorem TxtP.cls {c : CodeT} (h : TxtP c) : c.cls.length ≤ 2000000 := by cases h; assumption
theorem TxtP.blk {c : CodeT} (h : TxtP c) : ∀ b ∈ c.blocks, TxtP b := by cases h; assumption

theorem nmArgs_le (l : List UInt8) : nmArgs l ≤ 11 := by
  unfold nmArgs
  split
  · omega
  · split
    · omega
    · split
      · unfold kwL
        split
        · rename_i h
          unfold nmKw at h
          simp only [Bool.and_eq_true, decide_eq_true_eq] at h
          simp only [List.length_map]
          omega
        · simp
      · omega

theorem ins_fit {c : CodeT} {ar : List CodeT} {x : InsT} (h : mayF c ar x = true) : InsFit x := by
  unfold mayF at h
  split at h
  · rename_i h67
    unfold InsFit insTakes
    rcases h67 with h6 | h6 <;> rw [h6] <;> simp
  · rename_i h67
    unfold mayL at h
    unfold InsFit insTakes
    split at h
    · rename_i h0; rw [h0]; simp
    · split at h
      · rename_i h0; rw [h0]; simp
      · split at h
        · rename_i h0; rcases h0 with h0 | h0 <;> rw [h0] <;> simp
        · split at h
          · rename_i h0
            rcases hl : litGet c x.a with _ | l
            · rw [hl] at h; cases h
            · rw [hl] at h
              simp only [Bool.and_eq_true, decide_eq_true_eq, beq_iff_eq] at h
              have hb := nmArgs_le l.text
              rw [h.2] at hb
              have := h.1.2
              rcases h0 with h0 | h0 <;> rw [h0] <;> simp <;> omega
          · split at h
            · rename_i h0; rw [h0]; simp
            · split at h
              · rename_i h0
                simp only [Bool.and_eq_true, decide_eq_true_eq] at h
                rw [h0]; simp; omega
              · split at h
                · rename_i h0; rw [h0]; simp
                · simp only [Bool.and_eq_true, decide_eq_true_eq] at h
                  refine ⟨by omega, by omega, ?_⟩
                  repeat' split
                  all_goals omega
end Go.Proofs.YtefloadjolpgbaaDoor

namespace Go.Proofs.YtefloadjolpgbaaDoor
open Go.RowKit

set_option maxHeartbeats 1600000 in
set_option maxRecDepth 100000 in
theorem right2_any {b : CodeT} {v : CodeV} {A9 : Option Addr} {n9 c9 g : Nat} (w : World) (hg : w.cell? ⟨g, 0, none⟩ = some (.slice A9 n9 c9)) (hgl : g < w.heap.size) {r : Bool}
    (hR : ∀ w', Mod Nil w w' → Calls Tryd.prog 18 #[.agg (kArr b v A9 n9 c9)] w' fun e w'' => e = .returned (.bool r) ∧ Mod Nil w' w'') :
    Calls Tryd.prog 36 #[.agg (codeArr b v), .pointer (some ⟨g, 0, none⟩)] w fun e w' => e = .returned (.bool (!r)) ∧ Mod Nil w w' := by
  have hm1 := (Mod.refl Nil w).alloc (.cells (codeArr b v) 26)
  have hb1 : Blk (w.alloc (.cells (codeArr b v) 26)) w.heap.size 26 (codeArr b v) := Blk.new _ _ _
  obtain ⟨k0, k1, k2, k3, k4, k5⟩ := code_boxed hb1
  have hgc := (hm1.cell (p := ⟨g, 0, none⟩) hgl id).trans hg
  have HR := Lib.hid (hR _ hm1)
  have HM := Lib.hid hm1
  clear hb1 hm1 hR hg
  unfold kArr at HR
  unfold codeArr at *
  go_enter Tryd.func36, Tryd.ntmps36
  go_wp2_with fail
  refine HR.out.mono ?_
  rintro e w2 ⟨rfl, hm⟩
  have HM2 := Lib.hid (HM.out.trans hm)
  clear hm
  go_wp2_with fail
  go_ret
  exact ⟨rfl, HM2.out⟩

set_option maxHeartbeats 1600000 in
set_option maxRecDepth 100000 in
theorem codeIndexF_any (A : Option Addr) (n cap g : Nat) (rows : List (List Value)) (w : World) (hn : rows.length = n) (hbig : n ≤ 20000) (h6 : ∀ r ∈ rows, r.length = 6) (hr : Rd All w A rows.flatten)
    (hC : ∀ (i : Nat) (r : List Value) (w' : World), rows[i]? = some r → Mod Nil w w' → Calls Tryd.prog 36 #[.agg r.toArray, .pointer (some ⟨g, 0, none⟩)] w' fun e w'' => e = .returned (.bool false) ∧ Mod Nil w' w'') :
    Calls Tryd.prog 55 #[.slice A n cap, k2Fn g] w fun e w' => e = .returned (.int .i64 (-1)) ∧ Mod Nil w w' := by
  have HR := Lib.hid hr
  have HC := Lib.hid hC
  have H6 := Lib.hid h6
  have HN := Lib.hid hn
  clear hr hC h6 hn
  unfold k2Fn
  go_enter Tryd.func55, Tryd.ntmps55
  go_wp2_with fail
  go_loopw [8] (fun i wr => ∃ (k : Nat), k ≤ n ∧ i = .int .i64 k ∧ Mod Nil w wr) (fun v _ => n - (intOf v).toNat)
  case atStart => exact ⟨0, Nat.zero_le _, rfl, Mod.refl _ _⟩
  case round =>
    obtain ⟨k, hk, rfl, hm⟩ := hrel
    have HM := Lib.hid hm
    clear hm
    by_cases hlt : k < n
    · obtain ⟨r, hri⟩ : ∃ r, rows[k]? = some r := ⟨_, List.getElem?_eq_getElem (by rw [HN.out]; exact hlt)⟩
      obtain ⟨ad, u0, u1, u2, u3, u4, u5, rfl, hab, rfl, e0, e1, e2, e3, e4, e5⟩ := rows_six (HR.out.keep0 HM.out) H6.out hri
      have HCC := Lib.hid (HC.out k _ _ hri HM.out)
      clear hri
      go_wp2_with fail
      refine HCC.out.mono ?_
      rintro e w2 ⟨rfl, hm⟩
      have HM2 := Lib.hid (HM.out.trans hm)
      clear hm
      go_wp2_with fail
      refine ⟨⟨k + 1, hlt, rfl, HM2.out⟩, ?_⟩
      simp [intOf]
      omega
    · go_wp2_with fail
      go_ret
      exact ⟨rfl, HM.out⟩

set_option maxHeartbeats 400000 in
set_option maxRecDepth 100000 in
theorem codeContainsF_any (A : Option Addr) (n cap g : Nat) (rows : List (List Value)) (w : World) (hn : rows.length = n) (hbig : n ≤ 20000) (h6 : ∀ r ∈ rows, r.length = 6) (hr : Rd All w A rows.flatten)
    (hC : ∀ (i : Nat) (r : List Value) (w' : World), rows[i]? = some r → Mod Nil w w' → Calls Tryd.prog 36 #[.agg r.toArray, .pointer (some ⟨g, 0, none⟩)] w' fun e w'' => e = .returned (.bool false) ∧ Mod Nil w' w'') :
    Calls Tryd.prog 35 #[.slice A n cap, k2Fn g] w fun e w' => e = .returned (.bool false) ∧ Mod Nil w w' := by
  have HI := Lib.hid (codeIndexF_any A n cap g rows w hn hbig h6 hr hC)
  unfold k2Fn at HI ⊢
  clear hr hC h6
  go_enter Tryd.func35, Tryd.ntmps35
  go_wp2_with fail
  refine HI.out.mono ?_
  rintro e w2 ⟨rfl, hm⟩
  have HM := Lib.hid hm
  clear hm
  go_wp2_with fail
  go_ret
  exact ⟨rfl, HM.out⟩
end Go.Proofs.YtefloadjolpgbaaDoor

namespace Go.Proofs.YtefloadjolpgbaaDoor
open Go.RowKit

theorem PhA.other {W wx w' : World} {rows : List (List Value)} {cs : List Value} {n : Nat} {S : Nat → Bool} {h : Hist} (hP : PhA W rows cs n S h wx) {m : Nat} (hm0 : 2 < m) (v : Value) {F : Nat → Prop} (hm : Mod F wx w') (hmW : Mod Nil W w')
    (hF : ∀ g cs, Blk wx g 26 cs → ¬ F g) : PhA W rows cs n (setB S m) (upd h m v) w' := by
  have own : ∀ {v : Value} {n : Nat} {xs : List Value}, wx.ownsRow W.heap.size 26 6 v n xs → w'.ownsRow W.heap.size 26 6 v n xs := fun ho => own_keep ho hm fun k hk => by
    rcases ho.2 with ⟨rfl, _⟩ | ⟨g, cap, cur, rfl, _, hg, _⟩
    · cases hk
    · cases hk
      exact hF _ _ hg
  refine ⟨hmW, fun h1 h2 => ?_, fun h1 => ?_, fun h1 => ?_⟩
  · rw [setB_ne _ (by omega)] at h1 h2
    rw [upd_ne _ _ (by omega)]
    exact own (hP.s0 h1 h2)
  · rw [setB_ne _ (by omega)] at h1
    rw [upd_ne _ _ (by omega)]
    obtain ⟨B, e, hb⟩ := hP.s1 h1
    refine ⟨B, e, fun h2 => ?_⟩
    rw [setB_ne _ (by omega)] at h2
    exact (hb h2).keep hm (hF _ _ (hb h2))
  · rw [setB_ne _ (by omega)] at h1
    rw [upd_ne _ _ (by omega)]
    exact own (hP.s2 h1)

structure PhB (W : World) (rows : List (List Value)) (cs : List Value) (n : Nat) (S : Nat → Bool) (h : Hist) (w : World) : Prop where
  a : PhA W rows cs n S h w
  s3 : S 3 = true → ∃ B, h 3 = .pointer (some ⟨B, 0, none⟩) ∧ W.heap.size ≤ B ∧ Blk w B 24 #[if S 4 then h 2 else .slice none 0 0]
theorem PhB.init {W : World} {rows : List (List Value)} {cs : List Value} {n : Nat} (h : Hist) : PhB W rows cs n (fun _ => false) h W := ⟨PhA.init h, fun h => by cases h⟩

theorem PhB.keep3 {W wx w' : World} {rows : List (List Value)} {cs : List Value} {n : Nat} {S : Nat → Bool} {h : Hist} (hP : PhB W rows cs n S h wx) {m : Nat} (hm : m < 3) {v : Value} (h4 : S 4 = false) {F : Nat → Prop} (hmo : Mod F wx w') (hF : ∀ g cs, Blk wx g 24 cs → ¬ F g)
    (ha : PhA W rows cs n (setB S m) (upd h m v) w') : PhB W rows cs n (setB S m) (upd h m v) w' := by
  refine ⟨ha, fun h3 => ?_⟩
  rw [setB_ne _ (by omega)] at h3
  obtain ⟨B, e, hB, hb⟩ := hP.s3 h3
  rw [h4] at hb
  refine ⟨B, by rw [upd_ne _ _ (by omega)]; exact e, hB, ?_⟩
  rw [setB_ne _ (by omega), h4]
  exact hb.keep hmo (hF _ _ hb)
theorem PhB.w3 {W wx : World} {rows : List (List Value)} {cs : List Value} {n : Nat} {S : Nat → Bool} {h : Hist} (hP : PhB W rows cs n S h wx) (h4 : S 4 = false) :
    PhB W rows cs n (setB S 3) (upd h 3 (.pointer (some ⟨wx.heap.size, 0, none⟩))) (wx.alloc (.cells #[.slice none 0 0] 24)) := by
  refine ⟨hP.a.other (by decide) _ ((Mod.refl Nil wx).alloc _) (hP.a.mod.alloc _) (fun _ _ _ h => h), fun _ => ⟨wx.heap.size, upd_same _ _ _, hP.a.mod.size, ?_⟩⟩
  rw [setB_ne _ (by decide), h4]
  exact Blk.new _ _ _
theorem PhB.w4 {W wx : World} {rows : List (List Value)} {cs : List Value} {n : Nat} {S : Nat → Bool} {h : Hist} (hP : PhB W rows cs n S h wx) {B : Nat} (h3 : S 3 = true) (e : h 3 = .pointer (some ⟨B, 0, none⟩)) (h4 : S 4 = false) (v : Value) :
    PhB W rows cs n (setB S 4) (upd h 4 v) (wx.setCell ⟨B, 0, none⟩ (h 2)) := by
  obtain ⟨B', e', hB, hb⟩ := hP.s3 h3
  rw [e] at e'
  cases e'
  have hm : Mod (fun k => k = B) wx (wx.setCell ⟨B, 0, none⟩ (h 2)) := Mod.set (F := fun k => k = B) (Mod.refl _ wx) (p := ⟨B, 0, none⟩) (.inl rfl) _
  have hmW : Mod Nil W (wx.setCell ⟨B, 0, none⟩ (h 2)) := hP.a.mod.set (p := ⟨B, 0, none⟩) (.inr hB) _
  refine ⟨hP.a.other (by decide) _ hm hmW (fun g cs hg he => ?_), fun _ => ⟨B, by rw [upd_ne _ _ (by decide)]; exact e, hB, ?_⟩⟩
  · exact hb.ne_ hg (by decide) he.symm
  · rw [setB_same, if_pos rfl, upd_ne _ _ (by decide)]
    have := hb.set_ 0 (h 2)
    simpa using this
end Go.Proofs.YtefloadjolpgbaaDoor
