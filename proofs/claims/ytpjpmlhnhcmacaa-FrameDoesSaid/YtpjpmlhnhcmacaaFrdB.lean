/- The law FrameDoes: the round's parts. -/
import Derived.Test.YtpjpmlhnhcmacaaFrdA
import Derived.Test.YtpjpmlhnhcmacaaRest
import Derived.Test.YtpjpmlhnhcmacaaFlow5
import Derived.Outline
import Derived.WalkMore
namespace Go.Proofs.Ytpjpmlhnhcmacaa
open Go.RowKit

theorem DeedsAt.low {w : World} {A : Option Addr} {l : List Deed} (h : DeedsAt All w A l) : DeedsAt (fun k => k < w.heap.size) w A l := fun hn => by
  obtain ⟨b, o, e, _, hb, hf⟩ := h hn
  refine ⟨b, o, e, hb, hb, fun i a hi => ?_⟩
  obtain ⟨h0, h1, h2, h3, h4, B, c, h5, h6, h7⟩ := hf i a hi
  exact ⟨h0, h1, h2, h3, h4, B, c, h5, h6, h7.mono (fun b hb _ => hb)⟩

/-- The function's text. -/
noncomputable def doBody : Code := (Try.f3.body).getD .skip

/-- The deed's own block. -/
def DoBlk (w : World) (bd : Nat) (a : Deed) (B : Option Addr) (cB : Nat) : Prop := Blk w bd 37 #[.int .i64 a.kind, .int .i64 a.n, .int .i64 a.m, .int .i64 a.i, .int .u64 a.x, .slice B a.l.length cB]

theorem sl_nil {P : Program} {ops : Array Oper} {y : Code} {Q : Exit → Act → World → Prop} {a : Act} {w : World} (h : Code.wp P y Q a w) : wpList P ops (Exit.then (Code.wp P y Q) Q) [] a w := h
theorem sl_then {P : Program} {y : Code} {Q : Exit → Act → World → Prop} {a : Act} {w : World} (h : Code.wp P y Q a w) : Exit.then (Code.wp P y Q) Q .normal a w := h

theorem upI_bd {k : Option Nat} {n : Nat} (h : ∀ j, k = some j → j < n) : -1 ≤ upI k ∧ upI k < n ∨ upI k = -1 := by
  cases k with
  | none => right; rfl
  | some j => left; have := h j rfl; simp only [upI]; omega
theorem outI_lt {ss : List Scp} (h : Acy ss) {k : Option Nat} {N : Int} {n : Nat} (hk : ∀ j, k = some j → j < n) : ∀ j, outI ss k N = some j → j < n := by
  intro j hj
  unfold outI at hj
  split at hj
  · cases hj
  · cases k with
    | none => rw [outOf_none] at hj; cases hj
    | some i =>
      have := outOf_lt h _ _ _ hj
      have := hk i rfl
      omega

set_option maxHeartbeats 1600000 in
set_option maxRecDepth 100000 in
theorem frdo_out {Q : Exit → Act → World → Prop} {a : Act} {w w0 : World} {g gm bd : Nat} {d : FD} {dd : Deed} {B : Option Addr} {cB : Nat} {kk : Option Nat} {v0 v5 v6 v9 : Value}
    (HF : Sl 344 [(0, v0), (3, .pointer (some ⟨g, 0, none⟩)), (4, .pointer (some ⟨gm, 0, none⟩)), (5, v5), (6, v6), (7, .pointer (some ⟨bd, 0, none⟩)), (8, .int .i64 (upI kk)), (9, v9)] a)
    (hb : DoBlk w bd dd B cB) (hst : FSP 0 w0 w d) (hgm : d.gm = gm) (hkk : ∀ j, kk = some j → j < d.sd.length) (hs40 : d.sd.length ≤ 40) (hN : dd.n ≤ 9223372036854775807)
    (hQ : ∀ a', Sl 344 [(0, v0), (3, .pointer (some ⟨g, 0, none⟩)), (4, .pointer (some ⟨gm, 0, none⟩)), (5, v5), (6, v6), (7, .pointer (some ⟨bd, 0, none⟩)), (8, .int .i64 (upI kk)), (9, v9), (10, .int .i64 (upI (outI d.sd kk dd.n))), (11, .bool (outVar d.sd (outI d.sd kk dd.n) dd.i).isSome)] a' →
      (part [1, 1, 1, 1, 1, 0, 1, 0, 0, 1, 0, 0, 1, 1, 1, 1, 1, 1] doBody).wp Try.prog Q a' w.drew) :
    (part [1, 1, 1, 1, 1, 0, 1, 0, 0, 1, 0, 0, 1, 1, 1, 1] doBody).wp Try.prog Q a w := by
  have hc1 := hb.cell 1
  have hc3 := hb.cell 3
  have hrw := hst.rw (by decide)
  rw [hgm] at hrw
  have HR := Lib.hid hrw
  have HB := Lib.hid hb
  have HQ := Lib.hid hQ
  clear hb hst hQ hrw
  have key : ∀ mn : Int, mn = min dd.n 1000 → ∀ w', w = w' → Calls Try.prog 8 #[.pointer (some ⟨gm, 0, none⟩), .int .i64 (upI kk), .int .i64 mn] w fun r w' => r = .returned (.int .i64 (upI (outI d.sd kk dd.n))) ∧ w = w' := by
    intro mn hmn w' _
    rw [← outI_min HR.out.acy (fun j hj => by have := hkk j hj; omega) dd.n, ← hmn]
    exact rOut_any _ _ _ _ _ _ _ _ _ kk mn w HR.out hkk (by omega) (by omega)
  have HK := Lib.hid key
  obtain ⟨oo, hoo⟩ : ∃ oo, oo = outI d.sd kk dd.n := ⟨_, rfl⟩
  have hol : ∀ j, oo = some j → j < d.sd.length := by rw [hoo]; exact outI_lt HR.out.acy hkk
  rw [← hoo] at HK HQ
  clear key hoo
  rcases Int.lt_or_le 1000 dd.n with hmn | hmn
  all_goals
    conv => arg 2; whnf
    refine wp_seq (wp_region_lit ?_)
    refine sl_move HF rfl rfl (.inl rfl) (by decide) rfl ?_; clear HF; intro _ HF
    refine sl_move HF rfl rfl (.inl rfl) (by decide) rfl ?_; clear HF; intro _ HF
    refine sl_op HF rfl rfl (by decide) ?_; intro K hK; have e7 := HF.see 7 rfl; go_wp2_with fail; clear e7 HF; intro _ HF
    refine sl_op HF rfl rfl (by decide) ?_; intro K hK; have e59 := HF.see 59 rfl; go_wp2_with fail; clear e59 HF; intro _ HF
    refine sl_op HF rfl rfl (by decide) ?_; intro K hK; have e60 := HF.see 60 rfl; go_wp2_with fail; clear e60 HF; intro _ HF
    refine sl_op HF rfl rfl (by decide) ?_; intro K hK; have e57 := HF.see 57 rfl; have e58 := HF.see 58 rfl; have e61 := HF.see 61 rfl; go_wp2_with fail
    refine (HK.out _ (by omega) _ rfl).mono ?_
    rintro r w' ⟨rfl, rfl⟩
    go_wp2_with fail; clear e57 e58 e61 HF; intro _ HF
    refine sl_move HF rfl rfl (.inr rfl) (by decide) rfl ?_; clear HF; intro _ HF
    refine sl_nil ?_
    refine wp_seq ?_
    rcases oo with _ | j
    · have hu : upI none = -1 := rfl
      apply sl_flow5 (N := 0) [some 63, some 64, some 65, some 66, some 67, some 68, some 69, some 70, some 71, some 72, some 73, some 74, some 75, some 76, some 77, some 78, some 79, some 80, some 81, some 82, some 83, some 84, some 11] [.quiet 0 0, .quiet 0 0, .quiet 0 0, .quiet 0 0, .quiet 0 0, .quiet 0 0, .quiet 0 0, .quiet 0 0, .quiet 0 0, .quiet 0 0, .quiet 0 0, .quiet 0 0, .quiet 0 0, .quiet 0 0, .quiet 0 0, .quiet 0 0, .quiet 0 0, .quiet 0 0, .quiet 0 0, .quiet 0 0, .quiet 0 0, .quiet 0 0, .quiet 0 0] (fun _ _ wx => wx = w.drew) [_, _, _, (fun _ => undef), (fun _ => undef), (fun _ => undef), _, _, (fun _ => undef), (fun _ => undef), (fun _ => undef), (fun _ => undef), (fun _ => undef), (fun _ => undef), (fun _ => undef), (fun _ => undef), (fun _ => undef), (fun _ => undef), (fun _ => undef), (fun _ => undef), (fun _ => undef), _, _] HF
      case hm => kernel_rfl
      case hok => kernel_rfl
      case hfl => rfl
      case h0 => exact (fun _ => rfl)
      case hobs =>
        apply And.intro
        · apply ob_quiet
          case hg => rfl
          case hop =>
            intro ax wx h k hlo hhi hP hk K hK
            have e10 := hk.see 10 rfl rfl
            clear hk
            go_wp2_with fail
            all_goals first | exact hP | rfl
          case hst => exact fun h h' e => rfl
        apply And.intro
        · apply ob_quiet
          case hg => rfl
          case hop =>
            intro ax wx h k hlo hhi hP hk K hK
            have e63 := hk.see 63 rfl rfl
            clear hk
            obtain rfl : wx = w.drew := hP
            go_wp2_with fail
            all_goals first | exact hP | rfl
          case hst => exact fun h h' e => rfl
        apply And.intro
        · apply ob_quiet
          case hg => rfl
          case hop =>
            intro ax wx h k hlo hhi hP hk K hK
            have e64 := hk.see 64 rfl rfl
            clear hk
            go_wp2_with fail
            all_goals first | exact hP | rfl
          case hst => exact fun h h' e => rfl
        refine And.intro (ob_skip rfl rfl (fun _ => rfl)) ?_
        refine And.intro (ob_skip rfl rfl (fun _ => rfl)) ?_
        refine And.intro (ob_skip rfl rfl (fun _ => rfl)) ?_
        apply And.intro
        · apply ob_quiet
          case hg => rfl
          case hop =>
            intro ax wx h k hlo hhi hP hk K hK
            have e65 := hk.see 65 rfl rfl
            have e68 := hk.see 68 rfl rfl
            clear hk
            obtain rfl : wx = w.drew := hP
            go_wp2_with fail
            all_goals first | exact hP | rfl
          case hst => exact fun h h' e => rfl
        apply And.intro
        · apply ob_quiet
          case hg => rfl
          case hop =>
            intro ax wx h k hlo hhi hP hk K hK
            have e69 := hk.see 69 rfl rfl
            clear hk
            go_wp2_with fail
            all_goals first | exact hP | rfl
          case hst => exact fun h h' e => rfl
        refine And.intro (ob_skip rfl rfl (fun _ => rfl)) ?_
        refine And.intro (ob_skip rfl rfl (fun _ => rfl)) ?_
        refine And.intro (ob_skip rfl rfl (fun _ => rfl)) ?_
        refine And.intro (ob_skip rfl rfl (fun _ => rfl)) ?_
        refine And.intro (ob_skip rfl rfl (fun _ => rfl)) ?_
        refine And.intro (ob_skip rfl rfl (fun _ => rfl)) ?_
        refine And.intro (ob_skip rfl rfl (fun _ => rfl)) ?_
        refine And.intro (ob_skip rfl rfl (fun _ => rfl)) ?_
        refine And.intro (ob_skip rfl rfl (fun _ => rfl)) ?_
        refine And.intro (ob_skip rfl rfl (fun _ => rfl)) ?_
        refine And.intro (ob_skip rfl rfl (fun _ => rfl)) ?_
        refine And.intro (ob_skip rfl rfl (fun _ => rfl)) ?_
        refine And.intro (ob_skip rfl rfl (fun _ => rfl)) ?_
        apply And.intro
        · apply ob_quiet
          case hg => rfl
          case hop =>
            intro ax wx h k hlo hhi hP hk K hK
            have e70 := hk.see 70 rfl rfl
            have e83 := hk.see 83 rfl rfl
            clear hk
            obtain rfl : wx = w.drew := hP
            go_wp2_with fail
            all_goals first | exact hP | rfl
          case hst => exact fun h h' e => rfl
        apply And.intro
        · apply ob_quiet
          case hg => rfl
          case hop =>
            intro ax wx h k hlo hhi hP hk K hK
            have e84 := hk.see 84 rfl rfl
            clear hk
            go_wp2_with fail
            all_goals first | exact hP | rfl
          case hst => exact fun h h' e => rfl
        exact trivial
      intro w' a' h hP HF
      obtain rfl : w' = w.drew := hP
      exact HQ.out _ (HF.keep [0, 3, 4, 5, 6, 7, 8, 9, 10, 11])
    · have hj := hol j rfl
      have hu : upI (some j) = (j : Int) := rfl
      by_cases hI : 0 ≤ dd.i
      · obtain ⟨s, hs⟩ : ∃ s, d.sd[j]? = some s := ⟨_, List.getElem?_eq_getElem hj⟩
        obtain ⟨b, hbj, h1, _⟩ := zip_at HR.out.len hs
        obtain ⟨gb, cap, hv, hgb, hgl⟩ := HR.out.scs.form (by omega)
        have hc0 := HR.out.blk.cell 0
        rw [hv] at hc0
        have hcell := HR.out.scs.cells (g := gb) (by rw [hv]; rfl) (j * 2) _ h1
        rw [Addr.add_lit, Nat.zero_add] at hcell
        have HV := Lib.hid (show varsOf d.sd j = s.vars by unfold varsOf; rw [hs]; rfl)
        clear hs hbj h1 hv hgb hgl hmn
        have hov : (outVar d.sd (some j) dd.i).isSome = decide (dd.i < s.vars.length) := by
          simp only [outVar, HV.out]
          by_cases hlt : dd.i < s.vars.length
          · rw [if_pos ⟨hI, hlt⟩]; simp [hlt]
          · rw [if_neg (fun h => hlt h.2)]; simp [hlt]
        rw [hov] at HQ
        clear hov
        by_cases hlt : dd.i < s.vars.length
        all_goals
          simp only [hlt, decide_true, decide_false] at HQ
          apply sl_flow5 (N := 0) [some 63, some 64, some 65, some 66, some 67, some 68, some 69, some 70, some 71, some 72, some 73, some 74, some 75, some 76, some 77, some 78, some 79, some 80, some 81, some 82, some 83, some 84, some 11] [.quiet 0 0, .quiet 0 0, .quiet 0 0, .quiet 0 0, .quiet 0 0, .quiet 0 0, .quiet 0 0, .quiet 0 0, .quiet 0 0, .quiet 0 0, .quiet 0 0, .quiet 0 0, .quiet 0 0, .quiet 0 0, .quiet 0 0, .quiet 0 0, .quiet 0 0, .quiet 0 0, .quiet 0 0, .quiet 0 0, .quiet 0 0, .quiet 0 0, .quiet 0 0] (fun _ _ wx => wx = w.drew) [_, _, _, _, _, _, _, _, _, _, _, _, _, _, _, _, _, _, _, _, _, _, _] HF
          case hm => kernel_rfl
          case hok => kernel_rfl
          case hfl => rfl
          case h0 => exact (fun _ => rfl)
          case hobs =>
            apply And.intro
            · apply ob_quiet
              case hg => rfl
              case hop =>
                intro ax wx h k hlo hhi hP hk K hK
                have e10 := hk.see 10 rfl rfl
                clear hk
                go_wp2_with fail
                all_goals first | exact hP | rfl
              case hst => exact fun h h' e => rfl
            apply And.intro
            · apply ob_quiet
              case hg => rfl
              case hop =>
                intro ax wx h k hlo hhi hP hk K hK
                have e63 := hk.see 63 rfl rfl
                clear hk
                obtain rfl : wx = w.drew := hP
                go_wp2_with fail
                all_goals first | exact hP | rfl
              case hst => exact fun h h' e => rfl
            apply And.intro
            · apply ob_quiet
              case hg => rfl
              case hop =>
                intro ax wx h k hlo hhi hP hk K hK
                have e64 := hk.see 64 rfl rfl
                clear hk
                go_wp2_with fail
                all_goals first | exact hP | rfl
              case hst => exact fun h h' e => rfl
            apply And.intro
            · apply ob_want
              case hg => rfl
              case hj => rfl
              case hv => exact fun _ => rfl
              case hop =>
                intro ax wx h k hlo hhi hP hk K hK
                have e7 := hk.see 7 rfl rfl
                clear hk
                obtain rfl : wx = w.drew := hP
                go_wp2_with fail
                all_goals first | exact hP | rfl
              case hst => exact fun h h' e => rfl
            apply And.intro
            · apply ob_want
              case hg => rfl
              case hj => rfl
              case hv => exact fun _ => rfl
              case hop =>
                intro ax wx h k hlo hhi hP hk K hK
                have e66 := hk.see 66 rfl rfl
                clear hk
                obtain rfl : wx = w.drew := hP
                go_wp2_with fail
                all_goals first | exact hP | rfl
              case hst => exact fun h h' e => rfl
            apply And.intro
            · apply ob_want
              case hg => rfl
              case hj => rfl
              case hv => exact fun _ => rfl
              case hop =>
                intro ax wx h k hlo hhi hP hk K hK
                have e67 := hk.see 67 rfl rfl
                clear hk
                obtain rfl : wx = w.drew := hP
                go_wp2_with fail
                all_goals first | exact hP | rfl
              case hst => exact fun h h' e => rfl
            apply And.intro
            · apply ob_quiet
              case hg => rfl
              case hop =>
                intro ax wx h k hlo hhi hP hk K hK
                have e65 := hk.see 65 rfl rfl
                have e68 := hk.see 68 rfl rfl
                clear hk
                obtain rfl : wx = w.drew := hP
                go_wp2_with fail
                all_goals first | exact hP | rfl
              case hst => exact fun h h' e => rfl
            apply And.intro
            · apply ob_quiet
              case hg => rfl
              case hop =>
                intro ax wx h k hlo hhi hP hk K hK
                have e69 := hk.see 69 rfl rfl
                clear hk
                go_wp2_with fail
                all_goals first | exact hP | rfl
              case hst => exact fun h h' e => rfl
            apply And.intro
            · apply ob_want
              case hg => rfl
              case hj => rfl
              case hv => exact fun _ => rfl
              case hop =>
                intro ax wx h k hlo hhi hP hk K hK
                have e7 := hk.see 7 rfl rfl
                clear hk
                obtain rfl : wx = w.drew := hP
                go_wp2_with fail
                all_goals first | exact hP | rfl
              case hst => exact fun h h' e => rfl
            apply And.intro
            · apply ob_want
              case hg => rfl
              case hj => rfl
              case hv => exact fun _ => rfl
              case hop =>
                intro ax wx h k hlo hhi hP hk K hK
                have e71 := hk.see 71 rfl rfl
                clear hk
                obtain rfl : wx = w.drew := hP
                go_wp2_with fail
                all_goals first | exact hP | rfl
              case hst => exact fun h h' e => rfl
            apply And.intro
            · apply ob_want
              case hg => rfl
              case hj => rfl
              case hv => exact fun _ => rfl
              case hop =>
                intro ax wx h k hlo hhi hP hk K hK
                have e4 := hk.see 4 rfl rfl
                clear hk
                go_wp2_with fail
                all_goals first | exact hP | rfl
              case hst => exact fun h h' e => rfl
            apply And.intro
            · apply ob_want
              case hg => rfl
              case hj => rfl
              case hv => exact fun _ => rfl
              case hop =>
                intro ax wx h k hlo hhi hP hk K hK
                have e73 := hk.see 73 rfl rfl
                clear hk
                obtain rfl : wx = w.drew := hP
                go_wp2_with fail
                all_goals first | exact hP | rfl
              case hst => exact fun h h' e => rfl
            apply And.intro
            · apply ob_want
              case hg => rfl
              case hj => rfl
              case hv => exact fun _ => rfl
              case hop =>
                intro ax wx h k hlo hhi hP hk K hK
                have e74 := hk.see 74 rfl rfl
                clear hk
                obtain rfl : wx = w.drew := hP
                go_wp2_with fail
                all_goals first | exact hP | rfl
              case hst => exact fun h h' e => rfl
            apply And.intro
            · apply ob_want
              case hg => rfl
              case hj => rfl
              case hv => exact fun _ => rfl
              case hop =>
                intro ax wx h k hlo hhi hP hk K hK
                have e75 := hk.see 75 rfl rfl
                clear hk
                obtain rfl : wx = w.drew := hP
                go_wp2_with fail
                all_goals first | exact hP | rfl
              case hst => exact fun h h' e => rfl
            apply And.intro
            · apply ob_want
              case hg => rfl
              case hj => rfl
              case hv => exact fun _ => rfl
              case hop =>
                intro ax wx h k hlo hhi hP hk K hK
                have e10 := hk.see 10 rfl rfl
                clear hk
                go_wp2_with fail
                all_goals first | exact hP | rfl
              case hst => exact fun h h' e => rfl
            apply And.intro
            · apply ob_want
              case hg => rfl
              case hj => rfl
              case hv => exact fun _ => rfl
              case hop =>
                intro ax wx h k hlo hhi hP hk K hK
                have e77 := hk.see 77 rfl rfl
                clear hk
                obtain rfl : wx = w.drew := hP
                go_wp2_with fail
                all_goals first | exact hP | rfl
              case hst => exact fun h h' e => rfl
            apply And.intro
            · apply ob_want
              case hg => rfl
              case hj => rfl
              case hv => exact fun _ => rfl
              case hop =>
                intro ax wx h k hlo hhi hP hk K hK
                have e76 := hk.see 76 rfl rfl
                have e78 := hk.see 78 rfl rfl
                clear hk
                obtain rfl : wx = w.drew := hP
                go_wp2_with fail
                all_goals first | exact hP | rfl
              case hst => exact fun h h' e => rfl
            apply And.intro
            · apply ob_want
              case hg => rfl
              case hj => rfl
              case hv => exact fun _ => rfl
              case hop =>
                intro ax wx h k hlo hhi hP hk K hK
                have e79 := hk.see 79 rfl rfl
                clear hk
                obtain rfl : wx = w.drew := hP
                go_wp2_with fail
                all_goals first | exact hP | rfl
              case hst => exact fun h h' e => rfl
            apply And.intro
            · apply ob_want
              case hg => rfl
              case hj => rfl
              case hv => exact fun _ => rfl
              case hop =>
                intro ax wx h k hlo hhi hP hk K hK
                have e80 := hk.see 80 rfl rfl
                clear hk
                obtain rfl : wx = w.drew := hP
                go_wp2_with fail
                all_goals first | exact hP | rfl
              case hst => exact fun h h' e => rfl
            apply And.intro
            · apply ob_want
              case hg => rfl
              case hj => rfl
              case hv => exact fun _ => rfl
              case hop =>
                intro ax wx h k hlo hhi hP hk K hK
                have e81 := hk.see 81 rfl rfl
                clear hk
                obtain rfl : wx = w.drew := hP
                go_wp2_with fail
                all_goals first | exact hP | rfl
              case hst => exact fun h h' e => rfl
            apply And.intro
            · apply ob_want
              case hg => rfl
              case hj => rfl
              case hv => exact fun _ => rfl
              case hop =>
                intro ax wx h k hlo hhi hP hk K hK
                have e72 := hk.see 72 rfl rfl
                have e82 := hk.see 82 rfl rfl
                clear hk
                obtain rfl : wx = w.drew := hP
                go_wp2_with fail
                all_goals first | exact hP | rfl
              case hst => exact fun h h' e => rfl
            apply And.intro
            · apply ob_quiet
              case hg => rfl
              case hop =>
                intro ax wx h k hlo hhi hP hk K hK
                have e70 := hk.see 70 rfl rfl
                have e83 := hk.see 83 rfl rfl
                clear hk
                obtain rfl : wx = w.drew := hP
                go_wp2_with fail
                all_goals first | exact hP | rfl
              case hst => exact fun h h' e => rfl
            apply And.intro
            · apply ob_quiet
              case hg => rfl
              case hop =>
                intro ax wx h k hlo hhi hP hk K hK
                have e84 := hk.see 84 rfl rfl
                clear hk
                go_wp2_with fail
                all_goals first | exact hP | rfl
              case hst => exact fun h h' e => rfl
            exact trivial
          intro w' a' h hP HF
          obtain rfl : w' = w.drew := hP
          refine HQ.out _ (HF.keep [0, 3, 4, 5, 6, 7, 8, 9, 10, 11])
      · clear hmn
        have hov : (outVar d.sd (some j) dd.i).isSome = false := by simp only [outVar]; rw [if_neg (by omega)]; rfl
        rw [hov] at HQ
        clear hov
        apply sl_flow5 (N := 0) [some 63, some 64, some 65, some 66, some 67, some 68, some 69, some 70, some 71, some 72, some 73, some 74, some 75, some 76, some 77, some 78, some 79, some 80, some 81, some 82, some 83, some 84, some 11] [.quiet 0 0, .quiet 0 0, .quiet 0 0, .quiet 0 0, .quiet 0 0, .quiet 0 0, .quiet 0 0, .quiet 0 0, .quiet 0 0, .quiet 0 0, .quiet 0 0, .quiet 0 0, .quiet 0 0, .quiet 0 0, .quiet 0 0, .quiet 0 0, .quiet 0 0, .quiet 0 0, .quiet 0 0, .quiet 0 0, .quiet 0 0, .quiet 0 0, .quiet 0 0] (fun _ _ wx => wx = w.drew) [_, _, _, _, _, _, _, _, (fun _ => undef), (fun _ => undef), (fun _ => undef), (fun _ => undef), (fun _ => undef), (fun _ => undef), (fun _ => undef), (fun _ => undef), (fun _ => undef), (fun _ => undef), (fun _ => undef), (fun _ => undef), (fun _ => undef), _, _] HF
        case hm => kernel_rfl
        case hok => kernel_rfl
        case hfl => rfl
        case h0 => exact (fun _ => rfl)
        case hobs =>
          apply And.intro
          · apply ob_quiet
            case hg => rfl
            case hop =>
              intro ax wx h k hlo hhi hP hk K hK
              have e10 := hk.see 10 rfl rfl
              clear hk
              go_wp2_with fail
              all_goals first | exact hP | rfl
            case hst => exact fun h h' e => rfl
          apply And.intro
          · apply ob_quiet
            case hg => rfl
            case hop =>
              intro ax wx h k hlo hhi hP hk K hK
              have e63 := hk.see 63 rfl rfl
              clear hk
              obtain rfl : wx = w.drew := hP
              go_wp2_with fail
              all_goals first | exact hP | rfl
            case hst => exact fun h h' e => rfl
          apply And.intro
          · apply ob_quiet
            case hg => rfl
            case hop =>
              intro ax wx h k hlo hhi hP hk K hK
              have e64 := hk.see 64 rfl rfl
              clear hk
              go_wp2_with fail
              all_goals first | exact hP | rfl
            case hst => exact fun h h' e => rfl
          apply And.intro
          · apply ob_want
            case hg => rfl
            case hj => rfl
            case hv => exact fun _ => rfl
            case hop =>
              intro ax wx h k hlo hhi hP hk K hK
              have e7 := hk.see 7 rfl rfl
              clear hk
              obtain rfl : wx = w.drew := hP
              go_wp2_with fail
              all_goals first | exact hP | rfl
            case hst => exact fun h h' e => rfl
          apply And.intro
          · apply ob_want
            case hg => rfl
            case hj => rfl
            case hv => exact fun _ => rfl
            case hop =>
              intro ax wx h k hlo hhi hP hk K hK
              have e66 := hk.see 66 rfl rfl
              clear hk
              obtain rfl : wx = w.drew := hP
              go_wp2_with fail
              all_goals first | exact hP | rfl
            case hst => exact fun h h' e => rfl
          apply And.intro
          · apply ob_want
            case hg => rfl
            case hj => rfl
            case hv => exact fun _ => rfl
            case hop =>
              intro ax wx h k hlo hhi hP hk K hK
              have e67 := hk.see 67 rfl rfl
              clear hk
              obtain rfl : wx = w.drew := hP
              go_wp2_with fail
              all_goals first | exact hP | rfl
            case hst => exact fun h h' e => rfl
          apply And.intro
          · apply ob_quiet
            case hg => rfl
            case hop =>
              intro ax wx h k hlo hhi hP hk K hK
              have e65 := hk.see 65 rfl rfl
              have e68 := hk.see 68 rfl rfl
              clear hk
              obtain rfl : wx = w.drew := hP
              go_wp2_with fail
              all_goals first | exact hP | rfl
            case hst => exact fun h h' e => rfl
          apply And.intro
          · apply ob_quiet
            case hg => rfl
            case hop =>
              intro ax wx h k hlo hhi hP hk K hK
              have e69 := hk.see 69 rfl rfl
              clear hk
              go_wp2_with fail
              all_goals first | exact hP | rfl
            case hst => exact fun h h' e => rfl
          refine And.intro (ob_skip rfl rfl (fun _ => rfl)) ?_
          refine And.intro (ob_skip rfl rfl (fun _ => rfl)) ?_
          refine And.intro (ob_skip rfl rfl (fun _ => rfl)) ?_
          refine And.intro (ob_skip rfl rfl (fun _ => rfl)) ?_
          refine And.intro (ob_skip rfl rfl (fun _ => rfl)) ?_
          refine And.intro (ob_skip rfl rfl (fun _ => rfl)) ?_
          refine And.intro (ob_skip rfl rfl (fun _ => rfl)) ?_
          refine And.intro (ob_skip rfl rfl (fun _ => rfl)) ?_
          refine And.intro (ob_skip rfl rfl (fun _ => rfl)) ?_
          refine And.intro (ob_skip rfl rfl (fun _ => rfl)) ?_
          refine And.intro (ob_skip rfl rfl (fun _ => rfl)) ?_
          refine And.intro (ob_skip rfl rfl (fun _ => rfl)) ?_
          refine And.intro (ob_skip rfl rfl (fun _ => rfl)) ?_
          apply And.intro
          · apply ob_quiet
            case hg => rfl
            case hop =>
              intro ax wx h k hlo hhi hP hk K hK
              have e70 := hk.see 70 rfl rfl
              have e83 := hk.see 83 rfl rfl
              clear hk
              obtain rfl : wx = w.drew := hP
              go_wp2_with fail
              all_goals first | exact hP | rfl
            case hst => exact fun h h' e => rfl
          apply And.intro
          · apply ob_quiet
            case hg => rfl
            case hop =>
              intro ax wx h k hlo hhi hP hk K hK
              have e84 := hk.see 84 rfl rfl
              clear hk
              go_wp2_with fail
              all_goals first | exact hP | rfl
            case hst => exact fun h h' e => rfl
          exact trivial
        intro w' a' h hP HF
        obtain rfl : w' = w.drew := hP
        refine HQ.out _ (HF.keep [0, 3, 4, 5, 6, 7, 8, 9, 10, 11])
end Go.Proofs.Ytpjpmlhnhcmacaa
