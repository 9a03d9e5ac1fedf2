/- The law FrameDoes: the round's end: what is compared. -/
import Derived.Test.YtpjpmlhnhcmacaaFrdB
namespace Go.Proofs.Ytpjpmlhnhcmacaa
open Go.RowKit

/-- The words that have been read. -/
def IsWs (l : List Int) (v : Value) (w : World) : Prop := ∃ A c, v = .slice A l.length c ∧ Rd All w A (l.map wv)
theorem IsWs.keep {l : List Int} {v : Value} {w w' : World} (h : IsWs l v w) (hm : Mod Nil w w') : IsWs l v w' := by
  obtain ⟨A, c, h1, h2⟩ := h
  exact ⟨A, c, h1, h2.keep0 hm⟩
structure PhE (W : World) (l : List Int) (k : Nat) (h : Hist) (w : World) : Prop where
  md : Mod Nil W w
  h0 : 0 < k → IsWs l (h 0) w
  h1 : 1 < k → IsWs l (h 1) w
  h2 : 2 < k → h 2 = .bool true

/-- What is read of both sides at the round's end. -/
structure EndSt (w0 w : World) (g gm : Nat) (d : FD) : Prop where
  st : FSP 0 w0 w d
  g : d.g = g
  gm : d.gm = gm
  sd : d.sd = d.ss
  fl : d.acs.map (·.a) = d.fl
  few : Few d

theorem EndSt.keep {w0 w w' : World} {g gm : Nat} {d : FD} (h : EndSt w0 w g gm d) (hm : Mod Nil w w') : EndSt w0 w' g gm d := ⟨h.st.keep0 hm, h.g, h.gm, h.sd, h.fl, h.few⟩
theorem EndSt.len {w0 w : World} {g gm : Nat} {d : FD} (h : EndSt w0 w g gm d) : Calls Try.prog 17 #[.pointer (some ⟨g, 0, none⟩)] w fun r w' => r = .returned (.int .i64 d.fl.length) ∧ w = w' := by
  have := fs_len h.st
  rw [h.g] at this
  exact this
theorem EndSt.words {w0 w : World} {g gm : Nat} {d : FD} (h : EndSt w0 w g gm d) : Calls Try.prog 19 #[.pointer (some ⟨g, 0, none⟩)] w fun r w' => ∃ v, r = .returned v ∧ IsWs (frW d.ss d.fl []).1 v w' ∧ Mod Nil w w' := by
  have := fs_words h.st h.few
  rw [h.g] at this
  refine this.mono ?_
  rintro r w' ⟨A, c, rfl, h1, h2⟩
  exact ⟨_, rfl, ⟨A, c, rfl, h1⟩, h2⟩
theorem EndSt.rwords {w0 w : World} {g gm : Nat} {d : FD} (h : EndSt w0 w g gm d) : Calls Try.prog 20 #[.pointer (some ⟨gm, 0, none⟩)] w fun r w' => ∃ v, r = .returned v ∧ IsWs (frW d.ss d.fl []).1 v w' ∧ Mod Nil w w' := by
  have := fs_rwords h.st h.few h.sd h.fl
  rw [h.gm] at this
  refine this.mono ?_
  rintro r w' ⟨A, c, rfl, h1, h2⟩
  exact ⟨_, rfl, ⟨A, c, rfl, h1⟩, h2⟩
theorem EndSt.big {w0 w : World} {g gm : Nat} {d : FD} (h : EndSt w0 w g gm d) : (frW d.ss d.fl []).1.length ≤ 1000000 := by
  have hsc := h.st.sc (by decide)
  have := frW_len hsc.acy (varsOf_len h.few.f3) h.few.f2 d.fl [] (fun a ha j hj => by rw [← hsc.len]; exact h.st.val a ha j hj) h.few.f4
  have := h.few.f1
  omega
/-- The slice of the document's activations. -/
theorem EndSt.acts {w0 w : World} {g gm : Nat} {d : FD} (h : EndSt w0 w g gm d) : ∃ A c, w.cell? ⟨gm, 1, none⟩ = some (.slice A d.fl.length c) ∧ gm < w.heap.size ∧
    ∀ (i : Nat) (a : Frm), d.fl[i]? = some a → ∃ b, A = some ⟨b, 0, none⟩ ∧ b < w.heap.size ∧ w.cell? ⟨b, i * 5, none⟩ = some (.int .i64 a.id) ∧ w.cell? ⟨b, i * 5 + 1, none⟩ = some (.int .i64 a.home) ∧ w.cell? ⟨b, i * 5 + 2, none⟩ = some (.int .u64 a.self) := by
  have hrw := h.st.rw (by decide)
  have hl : d.acs.length = d.fl.length := by rw [← h.fl, List.length_map]
  obtain ⟨A, c, hv, _, _⟩ := own_slice hrw.acts
  have hc := hrw.blk.cell 1
  rw [h.gm] at hc
  refine ⟨A, c, by rw [hc]; simp [hv, hl], by rw [← h.gm]; exact hrw.blk.lt, fun i a ha => ?_⟩
  rw [← h.fl, List.getElem?_map] at ha
  obtain ⟨p, hp, rfl⟩ := Option.map_eq_some_iff.1 ha
  obtain ⟨e1, e2, e3, _, _⟩ := act_at hp
  have hil := (List.getElem?_eq_some_iff.1 hp).1
  obtain ⟨gb, cap, hv2, hgb, hgl⟩ := hrw.acts.form (by omega)
  rw [hv] at hv2
  injection hv2 with hA
  subst hA
  have hh : d.vl = .slice (some ⟨gb, 0, none⟩) d.acs.length cap := by rw [hv]; rename_i hcc; rw [hcc]
  have k := fun j u hu => hrw.acts.cells (g := gb) (by rw [hh]; rfl) j u hu
  have k1 := k _ _ e1
  have k2 := k _ _ e2
  have k3 := k _ _ e3
  rw [Addr.add_lit, Nat.zero_add] at k1 k2 k3
  exact ⟨gb, rfl, hgl, k1, k2, k3⟩

set_option maxHeartbeats 1600000 in
set_option maxRecDepth 100000 in
theorem frdo_end1 {Q : Exit → Act → World → Prop} {a : Act} {w w0 : World} {g gm : Nat} {d : FD} {v0 v5 v6 : Value}
    (HF : Sl 344 [(0, v0), (3, .pointer (some ⟨g, 0, none⟩)), (4, .pointer (some ⟨gm, 0, none⟩)), (5, v5), (6, v6)] a)
    (hst : EndSt w0 w g gm d)
    (hQ : ∀ a' w', Sl 344 [(0, v0), (3, .pointer (some ⟨g, 0, none⟩)), (4, .pointer (some ⟨gm, 0, none⟩)), (5, v5), (6, v6)] a' → Mod Nil w w' → (part [1, 1, 1, 1, 1, 0, 1, 0, 0, 1, 0, 0, 1, 1, 1, 1, 1, 1, 1, 1] doBody).wp Try.prog Q a' w') :
    (part [1, 1, 1, 1, 1, 0, 1, 0, 0, 1, 0, 0, 1, 1, 1, 1, 1, 1, 1] doBody).wp Try.prog Q a w := by
  have HST := Lib.hid hst
  have HQ := Lib.hid hQ
  obtain ⟨A, c, hc, hgl, _⟩ := hst.acts
  have HC := Lib.hid hc
  have hl40 : d.fl.length ≤ 40 := hst.few.f1
  have HBIG := Lib.hid hst.big
  obtain ⟨fn, hfn⟩ : ∃ fn, fn = d.fl.length := ⟨_, rfl⟩
  rw [← hfn] at HC hl40
  have HFN := Lib.hid hfn
  clear hst hQ hc hfn
  conv => arg 2; whnf
  refine wp_seq ?_
  refine wp_seq ?_
  apply sl_flow5 (N := 3) [some 253, some 254, some 255, some 256, some 257, some 258, some 259, some 260, some 261, some 262, some 263, some 264, some 265, some 266, some 267, some 268] [.quiet 0 0, .quiet 0 0, .quiet 0 0, .quiet 0 0, .quiet 0 0, .quiet 0 0, .quiet 0 0, .quiet 0 0, .quiet 0 0, .quiet 0 0, .writes 0, .quiet 0 1, .writes 1, .writes 2, .quiet 3 3, .quiet 3 3] (PhE w.drew (frW d.ss d.fl []).1) [_, _, _, _, _, _, _, _, _, _, (fun h => h 0), _, (fun h => h 1), (fun h => h 2), _, _] HF
  case hm => kernel_rfl
  case hok => kernel_rfl
  case hfl => rfl
  case h0 => exact (fun _ => ⟨Mod.refl _ _, fun h => absurd h (by decide), fun h => absurd h (by decide), fun h => absurd h (by decide)⟩)
  case hobs =>
    apply And.intro
    · apply ob_quiet
      case hg => rfl
      case hop =>
        intro ax wx h k hlo hhi hP hk K hK
        have e3 := hk.see 3 rfl rfl
        clear hk
        go_wp2_with fail
        all_goals first | exact hP | rfl
      case hst => exact fun h h' e => rfl
    apply And.intro
    · apply ob_quiet
      case hg => rfl
      case hop =>
        intro ax wx h k hlo hhi hP hk K hK
        have e253 := hk.see 253 rfl rfl
        clear hk
        go_wp2_with fail
        refine ((HST.out.keep ((Mod.refl Nil w).drew.trans hP.md)).len).mono ?_
        rintro r w' ⟨rfl, rfl⟩
        rw [← HFN.out]
        exact hK _ hP
      case hst => exact fun h h' e => rfl
    apply And.intro
    · apply ob_quiet
      case hg => rfl
      case hop =>
        intro ax wx h k hlo hhi hP hk K hK
        have e4 := hk.see 4 rfl rfl
        clear hk
        go_wp2_with fail
        all_goals first | exact hP | rfl
      case hst => exact fun h h' e => rfl
    apply And.intro
    · apply ob_quiet
      case hg => rfl
      case hop =>
        intro ax wx h k hlo hhi hP hk K hK
        have e255 := hk.see 255 rfl rfl
        clear hk
        go_wp2_with fail
        all_goals first | exact hP | rfl
      case hst => exact fun h h' e => rfl
    apply And.intro
    · apply ob_quiet
      case hg => rfl
      case hop =>
        intro ax wx h k hlo hhi hP hk K hK
        have e256 := hk.see 256 rfl rfl
        clear hk
        go_wp2_with fail
        all_goals first | exact hP | rfl
      case hst => exact fun h h' e => rfl
    apply And.intro
    · apply ob_quiet
      case hg => rfl
      case hop =>
        intro ax wx h k hlo hhi hP hk K hK
        have e257 := hk.see 257 rfl rfl
        clear hk
        have hcx : wx.cell? ⟨gm, 1, none⟩ = some (.slice A fn c) := (((Mod.refl Nil w).drew.trans hP.md).cell (p := ⟨gm, 1, none⟩) hgl id).trans HC.out
        go_wp2_with fail
        all_goals first | exact hP | rfl
      case hst => exact fun h h' e => rfl
    apply And.intro
    · apply ob_quiet
      case hg => rfl
      case hop =>
        intro ax wx h k hlo hhi hP hk K hK
        have e258 := hk.see 258 rfl rfl
        clear hk
        go_wp2_with fail
        all_goals first | exact hP | rfl
      case hst => exact fun h h' e => rfl
    apply And.intro
    · apply ob_quiet
      case hg => rfl
      case hop =>
        intro ax wx h k hlo hhi hP hk K hK
        have e254 := hk.see 254 rfl rfl
        have e259 := hk.see 259 rfl rfl
        clear hk
        go_wp2_with fail
        all_goals first | exact hP | rfl
      case hst => exact fun h h' e => rfl
    apply And.intro
    · apply ob_quiet
      case hg => rfl
      case hop =>
        intro ax wx h k hlo hhi hP hk K hK
        have e260 := hk.see 260 rfl rfl
        clear hk
        go_wp2_with fail
        all_goals first | exact hP | rfl
      case hst => exact fun h h' e => rfl
    apply And.intro
    · apply ob_want
      case hg => rfl
      case hj => rfl
      case hv => exact fun _ => rfl
      case hop =>
        intro ax wx h k hlo hhi hP hk K hK
        have e3 := hk.see 3 rfl rfl
        clear hk
        go_wp2_with fail
        all_goals first | exact hP | rfl
      case hst => exact fun h h' e => rfl
    refine And.intro (ob_writes_want rfl rfl (fun _ => rfl) ?op) ?_
    case op =>
      intro ax wx h hP hk K hK
      have e262 := hk.see 262 rfl rfl
      clear hk
      go_wp2_with fail
      refine ((HST.out.keep ((Mod.refl Nil w).drew.trans hP.md)).words).mono ?_
      rintro r w' ⟨v, rfl, h1, h2⟩
      exact hK _ _ ⟨hP.md.trans h2, fun _ => by rw [upd_same]; exact h1, fun h => absurd h (by decide), fun h => absurd h (by decide)⟩
    apply And.intro
    · apply ob_want
      case hg => rfl
      case hj => rfl
      case hv => exact fun _ => rfl
      case hop =>
        intro ax wx h k hlo hhi hP hk K hK
        have e4 := hk.see 4 rfl rfl
        clear hk
        go_wp2_with fail
        all_goals first | exact hP | rfl
      case hst => exact fun h h' e => rfl
    refine And.intro (ob_writes_want rfl rfl (fun _ => rfl) ?op) ?_
    case op =>
      intro ax wx h hP hk K hK
      have e264 := hk.see 264 rfl rfl
      clear hk
      go_wp2_with fail
      refine ((HST.out.keep ((Mod.refl Nil w).drew.trans hP.md)).rwords).mono ?_
      rintro r w' ⟨v, rfl, h1, h2⟩
      exact hK _ _ ⟨hP.md.trans h2, fun _ => by rw [upd_ne _ _ (by decide)]; exact (hP.h0 (by decide)).keep h2, fun _ => by rw [upd_same]; exact h1, fun h => absurd h (by decide)⟩
    refine And.intro (ob_writes_want rfl rfl (fun _ => rfl) ?op) ?_
    case op =>
      intro ax wx h hP hk K hK
      have e263 := hk.see 263 rfl rfl
      have e265 := hk.see 265 rfl rfl
      try dsimp only at e263 e265
      clear hk
      obtain ⟨A1, c1, e1, r1⟩ := hP.h0 (by decide)
      obtain ⟨A2, c2, e2, r2⟩ := hP.h1 (by decide)
      rw [e1] at e263
      rw [e2] at e265
      have HP := Lib.hid hP
      have R1 := Lib.hid r1
      have R2 := Lib.hid r2
      clear e1 e2 r1 r2 hP
      go_wp2_with fail
      refine (sameWords_any A1 A2 _ c1 c2 _ wx rfl R1.out R2.out HBIG.out).mono ?_
      rintro r w' ⟨rfl, h2⟩
      exact hK _ _ ⟨HP.out.md.trans h2, fun _ => by rw [upd_ne _ _ (by decide)]; exact (HP.out.h0 (by decide)).keep h2, fun _ => by rw [upd_ne _ _ (by decide)]; exact (HP.out.h1 (by decide)).keep h2, fun _ => upd_same _ _ _⟩
    apply And.intro
    · apply ob_want
      case hg => rfl
      case hj => rfl
      case hv => exact fun _ => rfl
      case hop =>
        intro ax wx h k hlo hhi hP hk K hK
        have e266 := hk.see 266 rfl rfl
        try dsimp only at e266
        clear hk
        rw [hP.h2 (by omega)] at e266
        go_wp2_with fail
        all_goals first | exact hP | rfl
      case hst => exact fun h h' e => by first | rfl | simp only [e 0 (by decide)] | simp only [e 1 (by decide)] | simp only [e 2 (by decide)] | simp only [e 0 (by decide), e 1 (by decide), e 2 (by decide)]
    apply And.intro
    · apply ob_quiet
      case hg => rfl
      case hop =>
        intro ax wx h k hlo hhi hP hk K hK
        have e261 := hk.see 261 rfl rfl
        have e267 := hk.see 267 rfl rfl
        try dsimp only at e267
        clear hk
        go_wp2_with fail
        all_goals first | exact hP | rfl
      case hst => exact fun h h' e => by first | rfl | simp only [e 0 (by decide)] | simp only [e 1 (by decide)] | simp only [e 2 (by decide)] | simp only [e 0 (by decide), e 1 (by decide), e 2 (by decide)]
    exact trivial
  intro w' a' h hP HF
  refine sl_then (wp_cond_false (HF.at 268 rfl) (wp_skip (sl_then ?_)))
  exact HQ.out _ _ (HF.keep [0, 3, 4, 5, 6]) ((Mod.refl Nil w).drew.trans hP.md)

set_option maxHeartbeats 3200000 in
set_option maxRecDepth 100000 in
theorem frdo_end2 {Q : Exit → Act → World → Prop} {a : Act} {w w0 : World} {g gm : Nat} {d : FD} {v0 v5 v6 : Value}
    (HF : Sl 344 [(0, v0), (3, .pointer (some ⟨g, 0, none⟩)), (4, .pointer (some ⟨gm, 0, none⟩)), (5, v5), (6, v6)] a)
    (hst : EndSt w0 w g gm d)
    (hQ : ∀ a' w', Sl 344 [(0, v0), (3, .pointer (some ⟨g, 0, none⟩)), (4, .pointer (some ⟨gm, 0, none⟩)), (5, v5), (6, v6)] a' → Mod Nil w w' → Q .normal a' w') :
    (part [1, 1, 1, 1, 1, 0, 1, 0, 0, 1, 0, 0, 1, 1, 1, 1, 1, 1, 1, 1] doBody).wp Try.prog Q a w := by
  have HST := Lib.hid hst
  have HQ := Lib.hid hQ
  have ht := fs_top hst.st (by have := hst.few.f1; omega)
  rw [hst.g] at ht
  have HT := Lib.hid ht
  clear hst hQ ht
  conv => arg 2; whnf
  refine wp_seq (wp_region_lit ?_)
  refine sl_move HF rfl rfl (.inl rfl) (by decide) rfl ?_; clear HF; intro _ HF
  refine sl_op HF rfl rfl (by decide) ?_; intro K hK; have e269 := HF.see 269 rfl; go_wp2_with fail
  refine HT.out.mono ?_
  rintro r w1 ⟨hr, hm1⟩
  obtain ⟨A, c, hc, hgl, hat⟩ := (HST.out.keep hm1).acts
  have HC := Lib.hid hc
  have HAT := Lib.hid hat
  have HM1 := Lib.hid hm1
  have hl40 : d.fl.length ≤ 40 := HST.out.few.f1
  clear hc hat hm1
  rcases hgl2 : d.fl.getLast? with _ | x
  · rw [hgl2] at hr
    obtain rfl := hr
    have hn0 : d.fl.length = 0 := by
      rw [List.getLast?_eq_none_iff] at hgl2
      rw [hgl2]
      rfl
    rw [hn0] at HC
    clear hgl2 hn0
    go_wp2_with fail; clear e269 HF; intro _ HF
    refine sl_move HF rfl rfl (.inr rfl) (by decide) rfl ?_; clear HF; intro _ HF
    refine sl_nil (wp_seq ?_)
    apply sl_flow5 (N := 0) [some 271, some 272, some 273, some 274, some 275, some 276, some 277, some 278, some 279, some 280, some 281, some 282, some 283, some 284, some 285, some 286, some 287, some 288, some 289, some 290, some 291, some 292, some 293, some 294, some 295, some 296, some 297, some 298, some 299, some 300, some 301, some 302, some 303, some 304, some 305, some 306, some 307, some 308, some 309, some 310, some 311, some 312, some 313, some 314, some 315, some 316, some 317, some 318, some 319, some 320, some 321, some 322, some 323, some 324, some 325, some 326, some 327, some 328, some 329, some 330, some 331, some 332, some 333, some 334, some 335, some 336, some 337, some 338, some 339, some 340, some 341, some 342, some 343] [.quiet 0 0, .quiet 0 0, .quiet 0 0, .quiet 0 0, .quiet 0 0, .quiet 0 0, .quiet 0 0, .quiet 0 0, .quiet 0 0, .quiet 0 0, .quiet 0 0, .quiet 0 0, .quiet 0 0, .quiet 0 0, .quiet 0 0, .quiet 0 0, .quiet 0 0, .quiet 0 0, .quiet 0 0, .quiet 0 0, .quiet 0 0, .quiet 0 0, .quiet 0 0, .quiet 0 0, .quiet 0 0, .quiet 0 0, .quiet 0 0, .quiet 0 0, .quiet 0 0, .quiet 0 0, .quiet 0 0, .quiet 0 0, .quiet 0 0, .quiet 0 0, .quiet 0 0, .quiet 0 0, .quiet 0 0, .quiet 0 0, .quiet 0 0, .quiet 0 0, .quiet 0 0, .quiet 0 0, .quiet 0 0, .quiet 0 0, .quiet 0 0, .quiet 0 0, .quiet 0 0, .quiet 0 0, .quiet 0 0, .quiet 0 0, .quiet 0 0, .quiet 0 0, .quiet 0 0, .quiet 0 0, .quiet 0 0, .quiet 0 0, .quiet 0 0, .quiet 0 0, .quiet 0 0, .quiet 0 0, .quiet 0 0, .quiet 0 0, .quiet 0 0, .quiet 0 0, .quiet 0 0, .quiet 0 0, .quiet 0 0, .quiet 0 0, .quiet 0 0, .quiet 0 0, .quiet 0 0, .quiet 0 0, .quiet 0 0] (fun _ _ wx => wx = w1.drew) [_, _, _, _, _, _, _, _, _, _, _, _, _, (fun _ => undef), (fun _ => undef), (fun _ => undef), (fun _ => undef), (fun _ => undef), (fun _ => undef), (fun _ => undef), (fun _ => undef), (fun _ => undef), (fun _ => undef), (fun _ => undef), (fun _ => undef), (fun _ => undef), (fun _ => undef), (fun _ => undef), (fun _ => undef), (fun _ => undef), (fun _ => undef), (fun _ => undef), (fun _ => undef), (fun _ => undef), (fun _ => undef), (fun _ => undef), (fun _ => undef), (fun _ => undef), (fun _ => undef), (fun _ => undef), (fun _ => undef), (fun _ => undef), (fun _ => undef), (fun _ => undef), (fun _ => undef), (fun _ => undef), (fun _ => undef), (fun _ => undef), (fun _ => undef), (fun _ => undef), (fun _ => undef), (fun _ => undef), (fun _ => undef), (fun _ => undef), (fun _ => undef), (fun _ => undef), (fun _ => undef), (fun _ => undef), (fun _ => undef), (fun _ => undef), (fun _ => undef), (fun _ => undef), (fun _ => undef), (fun _ => undef), (fun _ => undef), (fun _ => undef), (fun _ => undef), (fun _ => undef), (fun _ => undef), (fun _ => undef), (fun _ => undef), _, _] HF
    case hm => kernel_rfl
    case hok => kernel_rfl
    case hfl => rfl
    case h0 => exact (fun _ => rfl)
    case hobs =>
      apply And.intro
      · apply ob_quiet
        case hg => rfl
        case hop =>
          intro ax wx h k hlo hhi hP hk K hK
          have e18 := hk.see 18 rfl rfl
          clear hk
          go_wp2_with fail
          all_goals first | exact hP | rfl
        case hst => exact fun h h' e => rfl
      apply And.intro
      · apply ob_quiet
        case hg => rfl
        case hop =>
          intro ax wx h k hlo hhi hP hk K hK
          have e271 := hk.see 271 rfl rfl
          clear hk
          obtain rfl : wx = w1.drew := hP
          go_wp2_with fail
          all_goals first | exact hP | rfl
        case hst => exact fun h h' e => rfl
      apply And.intro
      · apply ob_quiet
        case hg => rfl
        case hop =>
          intro ax wx h k hlo hhi hP hk K hK
          have e4 := hk.see 4 rfl rfl
          clear hk
          go_wp2_with fail
          all_goals first | exact hP | rfl
        case hst => exact fun h h' e => rfl
      apply And.intro
      · apply ob_quiet
        case hg => rfl
        case hop =>
          intro ax wx h k hlo hhi hP hk K hK
          have e273 := hk.see 273 rfl rfl
          clear hk
          obtain rfl : wx = w1.drew := hP
          go_wp2_with fail
          all_goals first | exact hP | rfl
        case hst => exact fun h h' e => rfl
      apply And.intro
      · apply ob_quiet
        case hg => rfl
        case hop =>
          intro ax wx h k hlo hhi hP hk K hK
          have e274 := hk.see 274 rfl rfl
          clear hk
          obtain rfl : wx = w1.drew := hP
          go_wp2_with fail
          all_goals first | exact hP | rfl
        case hst => exact fun h h' e => rfl
      apply And.intro
      · apply ob_quiet
        case hg => rfl
        case hop =>
          intro ax wx h k hlo hhi hP hk K hK
          have e275 := hk.see 275 rfl rfl
          clear hk
          obtain rfl : wx = w1.drew := hP
          have hcx := HC.out
          go_wp2_with fail
          all_goals first | exact hP | rfl
        case hst => exact fun h h' e => rfl
      apply And.intro
      · apply ob_quiet
        case hg => rfl
        case hop =>
          intro ax wx h k hlo hhi hP hk K hK
          have e276 := hk.see 276 rfl rfl
          clear hk
          obtain rfl : wx = w1.drew := hP
          go_wp2_with fail
          all_goals first | exact hP | rfl
        case hst => exact fun h h' e => rfl
      apply And.intro
      · apply ob_quiet
        case hg => rfl
        case hop =>
          intro ax wx h k hlo hhi hP hk K hK
          have e277 := hk.see 277 rfl rfl
          clear hk
          obtain rfl : wx = w1.drew := hP
          go_wp2_with fail
          all_goals first | exact hP | rfl
        case hst => exact fun h h' e => rfl
      apply And.intro
      · apply ob_quiet
        case hg => rfl
        case hop =>
          intro ax wx h k hlo hhi hP hk K hK
          have e272 := hk.see 272 rfl rfl
          have e278 := hk.see 278 rfl rfl
          clear hk
          obtain rfl : wx = w1.drew := hP
          go_wp2_with fail
          all_goals first | exact hP | rfl
        case hst => exact fun h h' e => rfl
      apply And.intro
      · apply ob_quiet
        case hg => rfl
        case hop =>
          intro ax wx h k hlo hhi hP hk K hK
          have e279 := hk.see 279 rfl rfl
          clear hk
          go_wp2_with fail
          all_goals first | exact hP | rfl
        case hst => exact fun h h' e => rfl
      apply And.intro
      · apply ob_want
        case hg => rfl
        case hj => rfl
        case hv => exact fun _ => rfl
        case hop =>
          intro ax wx h k hlo hhi hP hk K hK
          have e18 := hk.see 18 rfl rfl
          clear hk
          go_wp2_with fail
          all_goals first | exact hP | rfl
        case hst => exact fun h h' e => rfl
      apply And.intro
      · apply ob_want
        case hg => rfl
        case hj => rfl
        case hv => exact fun _ => rfl
        case hop =>
          intro ax wx h k hlo hhi hP hk K hK
          have e281 := hk.see 281 rfl rfl
          clear hk
          obtain rfl : wx = w1.drew := hP
          go_wp2_with fail
          all_goals first | exact hP | rfl
        case hst => exact fun h h' e => rfl
      apply And.intro
      · apply ob_want
        case hg => rfl
        case hj => rfl
        case hv => exact fun _ => rfl
        case hop =>
          intro ax wx h k hlo hhi hP hk K hK
          have e282 := hk.see 282 rfl rfl
          clear hk
          go_wp2_with fail
          all_goals first | exact hP | rfl
        case hst => exact fun h h' e => rfl
      refine And.intro (ob_skip rfl rfl (fun _ => rfl)) ?_
      refine And.intro (ob_skip rfl rfl (fun _ => rfl)) ?_
      refine And.intro (ob_skip rfl rfl (fun _ => rfl)) ?_
      refine And.intro (ob_skip rfl rfl (fun _ => rfl)) ?_
      refine And.intro (ob_skip rfl rfl (fun _ => rfl)) ?_
      refine And.intro (ob_skip rfl rfl (fun _ => rfl)) ?_
      refine And.intro (ob_skip rfl rfl (fun _ => rfl)) ?_
      refine And.intro (ob_skip rfl rfl (fun _ => rfl)) ?_
      refine And.intro (ob_skip rfl rfl (fun _ => rfl)) ?_
      refine And.intro (ob_skip rfl rfl (fun _ => rfl)) ?_
      refine And.intro (ob_skip rfl rfl (fun _ => rfl)) ?_
      refine And.intro (ob_skip rfl rfl (fun _ => rfl)) ?_
      refine And.intro (ob_skip rfl rfl (fun _ => rfl)) ?_
      refine And.intro (ob_skip rfl rfl (fun _ => rfl)) ?_
      refine And.intro (ob_skip rfl rfl (fun _ => rfl)) ?_
      refine And.intro (ob_skip rfl rfl (fun _ => rfl)) ?_
      refine And.intro (ob_skip rfl rfl (fun _ => rfl)) ?_
      refine And.intro (ob_skip rfl rfl (fun _ => rfl)) ?_
      refine And.intro (ob_skip rfl rfl (fun _ => rfl)) ?_
      refine And.intro (ob_skip_u rfl rfl (fun _ => rfl)) ?_
      refine And.intro (ob_skip_u rfl rfl (fun _ => rfl)) ?_
      refine And.intro (ob_skip_u rfl rfl (fun _ => rfl)) ?_
      refine And.intro (ob_skip_u rfl rfl (fun _ => rfl)) ?_
      refine And.intro (ob_skip_u rfl rfl (fun _ => rfl)) ?_
      refine And.intro (ob_skip_u rfl rfl (fun _ => rfl)) ?_
      refine And.intro (ob_skip_u rfl rfl (fun _ => rfl)) ?_
      refine And.intro (ob_skip_u rfl rfl (fun _ => rfl)) ?_
      refine And.intro (ob_skip_u rfl rfl (fun _ => rfl)) ?_
      refine And.intro (ob_skip_u rfl rfl (fun _ => rfl)) ?_
      refine And.intro (ob_skip_u rfl rfl (fun _ => rfl)) ?_
      refine And.intro (ob_skip_u rfl rfl (fun _ => rfl)) ?_
      refine And.intro (ob_skip_u rfl rfl (fun _ => rfl)) ?_
      refine And.intro (ob_skip_u rfl rfl (fun _ => rfl)) ?_
      refine And.intro (ob_skip_u rfl rfl (fun _ => rfl)) ?_
      refine And.intro (ob_skip_u rfl rfl (fun _ => rfl)) ?_
      refine And.intro (ob_skip_u rfl rfl (fun _ => rfl)) ?_
      refine And.intro (ob_skip_u rfl rfl (fun _ => rfl)) ?_
      refine And.intro (ob_skip rfl rfl (fun _ => rfl)) ?_
      refine And.intro (ob_skip rfl rfl (fun _ => rfl)) ?_
      refine And.intro (ob_skip_u rfl rfl (fun _ => rfl)) ?_
      refine And.intro (ob_skip_u rfl rfl (fun _ => rfl)) ?_
      refine And.intro (ob_skip_u rfl rfl (fun _ => rfl)) ?_
      refine And.intro (ob_skip_u rfl rfl (fun _ => rfl)) ?_
      refine And.intro (ob_skip_u rfl rfl (fun _ => rfl)) ?_
      refine And.intro (ob_skip_u rfl rfl (fun _ => rfl)) ?_
      refine And.intro (ob_skip_u rfl rfl (fun _ => rfl)) ?_
      refine And.intro (ob_skip_u rfl rfl (fun _ => rfl)) ?_
      refine And.intro (ob_skip_u rfl rfl (fun _ => rfl)) ?_
      refine And.intro (ob_skip_u rfl rfl (fun _ => rfl)) ?_
      refine And.intro (ob_skip_u rfl rfl (fun _ => rfl)) ?_
      refine And.intro (ob_skip_u rfl rfl (fun _ => rfl)) ?_
      refine And.intro (ob_skip_u rfl rfl (fun _ => rfl)) ?_
      refine And.intro (ob_skip_u rfl rfl (fun _ => rfl)) ?_
      refine And.intro (ob_skip_u rfl rfl (fun _ => rfl)) ?_
      refine And.intro (ob_skip_u rfl rfl (fun _ => rfl)) ?_
      refine And.intro (ob_skip_u rfl rfl (fun _ => rfl)) ?_
      refine And.intro (ob_skip_u rfl rfl (fun _ => rfl)) ?_
      refine And.intro (ob_skip rfl rfl (fun _ => rfl)) ?_
      apply And.intro
      · apply ob_want
        case hg => rfl
        case hj => rfl
        case hv => exact fun _ => rfl
        case hop =>
          intro ax wx h k hlo hhi hP hk K hK
          have e283 := hk.see 283 rfl rfl
          have e341 := hk.see 341 rfl rfl
          clear hk
          obtain rfl : wx = w1.drew := hP
          go_wp2_with fail
          all_goals first | exact hP | rfl
        case hst => exact fun h h' e => rfl
      apply And.intro
      · apply ob_quiet
        case hg => rfl
        case hop =>
          intro ax wx h k hlo hhi hP hk K hK
          have e280 := hk.see 280 rfl rfl
          have e342 := hk.see 342 rfl rfl
          clear hk
          obtain rfl : wx = w1.drew := hP
          go_wp2_with fail
          all_goals first | exact hP | rfl
        case hst => exact fun h h' e => rfl
      exact trivial
    intro w' a' h hP HF
    obtain rfl : w' = w1.drew := hP
    refine sl_then (wp_cond_false (HF.at 343 rfl) (wp_skip ?_))
    exact HQ.out _ _ (HF.keep [0, 3, 4, 5, 6]) HM1.out.drew
  · rw [hgl2] at hr
    obtain ⟨b, rfl, hb⟩ := hr
    obtain ⟨m, hm⟩ : ∃ m, d.fl.length = m + 1 := by
      rcases hl : d.fl with _ | ⟨y, l⟩
      · rw [hl] at hgl2; cases hgl2
      · exact ⟨l.length, rfl⟩
    have hx : d.fl[m]? = some x := by
      rw [List.getLast?_eq_getElem?, hm] at hgl2
      exact hgl2
    obtain ⟨gb, rfl, hgb, k1, k2, k3⟩ := HAT.out m x hx
    rw [hm] at HC hl40
    obtain ⟨b1, b2, b3⟩ := hb w1 HM1.out
    clear hgl2 hm hx hb
    go_wp2_with fail; clear e269 HF; intro _ HF
    refine sl_move HF rfl rfl (.inr rfl) (by decide) rfl ?_; clear HF; intro _ HF
    refine sl_nil (wp_seq ?_)
    apply sl_flow5 (N := 0) [some 271, some 272, some 273, some 274, some 275, some 276, some 277, some 278, some 279, some 280, some 281, some 282, some 283, some 284, some 285, some 286, some 287, some 288, some 289, some 290, some 291, some 292, some 293, some 294, some 295, some 296, some 297, some 298, some 299, some 300, some 301, some 302, some 303, some 304, some 305, some 306, some 307, some 308, some 309, some 310, some 311, some 312, some 313, some 314, some 315, some 316, some 317, some 318, some 319, some 320, some 321, some 322, some 323, some 324, some 325, some 326, some 327, some 328, some 329, some 330, some 331, some 332, some 333, some 334, some 335, some 336, some 337, some 338, some 339, some 340, some 341, some 342, some 343] [.quiet 0 0, .quiet 0 0, .quiet 0 0, .quiet 0 0, .quiet 0 0, .quiet 0 0, .quiet 0 0, .quiet 0 0, .quiet 0 0, .quiet 0 0, .quiet 0 0, .quiet 0 0, .quiet 0 0, .quiet 0 0, .quiet 0 0, .quiet 0 0, .quiet 0 0, .quiet 0 0, .quiet 0 0, .quiet 0 0, .quiet 0 0, .quiet 0 0, .quiet 0 0, .quiet 0 0, .quiet 0 0, .quiet 0 0, .quiet 0 0, .quiet 0 0, .quiet 0 0, .quiet 0 0, .quiet 0 0, .quiet 0 0, .quiet 0 0, .quiet 0 0, .quiet 0 0, .quiet 0 0, .quiet 0 0, .quiet 0 0, .quiet 0 0, .quiet 0 0, .quiet 0 0, .quiet 0 0, .quiet 0 0, .quiet 0 0, .quiet 0 0, .quiet 0 0, .quiet 0 0, .quiet 0 0, .quiet 0 0, .quiet 0 0, .quiet 0 0, .quiet 0 0, .quiet 0 0, .quiet 0 0, .quiet 0 0, .quiet 0 0, .quiet 0 0, .quiet 0 0, .quiet 0 0, .quiet 0 0, .quiet 0 0, .quiet 0 0, .quiet 0 0, .quiet 0 0, .quiet 0 0, .quiet 0 0, .quiet 0 0, .quiet 0 0, .quiet 0 0, .quiet 0 0, .quiet 0 0, .quiet 0 0, .quiet 0 0] (fun _ _ wx => wx = w1.drew) [_, _, _, _, _, _, _, _, _, _, _, _, _, _, _, _, _, _, _, _, _, _, _, _, _, _, _, _, _, _, _, _, _, _, _, _, _, _, _, _, _, _, _, _, _, _, _, _, _, _, _, _, _, _, _, _, _, _, _, _, _, _, _, _, _, _, _, _, _, _, _, _, _] HF
    case hm => kernel_rfl
    case hok => kernel_rfl
    case hfl => rfl
    case h0 => exact (fun _ => rfl)
    case hobs =>
      apply And.intro
      · apply ob_quiet
        case hg => rfl
        case hop =>
          intro ax wx h k hlo hhi hP hk K hK
          have e18 := hk.see 18 rfl rfl
          clear hk
          go_wp2_with fail
          all_goals first | exact hP | rfl
        case hst => exact fun h h' e => rfl
      apply And.intro
      · apply ob_quiet
        case hg => rfl
        case hop =>
          intro ax wx h k hlo hhi hP hk K hK
          have e271 := hk.see 271 rfl rfl
          clear hk
          obtain rfl : wx = w1.drew := hP
          go_wp2_with fail
          all_goals first | exact hP | rfl
        case hst => exact fun h h' e => rfl
      apply And.intro
      · apply ob_quiet
        case hg => rfl
        case hop =>
          intro ax wx h k hlo hhi hP hk K hK
          have e4 := hk.see 4 rfl rfl
          clear hk
          go_wp2_with fail
          all_goals first | exact hP | rfl
        case hst => exact fun h h' e => rfl
      apply And.intro
      · apply ob_quiet
        case hg => rfl
        case hop =>
          intro ax wx h k hlo hhi hP hk K hK
          have e273 := hk.see 273 rfl rfl
          clear hk
          obtain rfl : wx = w1.drew := hP
          go_wp2_with fail
          all_goals first | exact hP | rfl
        case hst => exact fun h h' e => rfl
      apply And.intro
      · apply ob_quiet
        case hg => rfl
        case hop =>
          intro ax wx h k hlo hhi hP hk K hK
          have e274 := hk.see 274 rfl rfl
          clear hk
          obtain rfl : wx = w1.drew := hP
          go_wp2_with fail
          all_goals first | exact hP | rfl
        case hst => exact fun h h' e => rfl
      apply And.intro
      · apply ob_quiet
        case hg => rfl
        case hop =>
          intro ax wx h k hlo hhi hP hk K hK
          have e275 := hk.see 275 rfl rfl
          clear hk
          obtain rfl : wx = w1.drew := hP
          have hcx := HC.out
          go_wp2_with fail
          all_goals first | exact hP | rfl
        case hst => exact fun h h' e => rfl
      apply And.intro
      · apply ob_quiet
        case hg => rfl
        case hop =>
          intro ax wx h k hlo hhi hP hk K hK
          have e276 := hk.see 276 rfl rfl
          clear hk
          obtain rfl : wx = w1.drew := hP
          go_wp2_with fail
          all_goals first | exact hP | rfl
        case hst => exact fun h h' e => rfl
      apply And.intro
      · apply ob_quiet
        case hg => rfl
        case hop =>
          intro ax wx h k hlo hhi hP hk K hK
          have e277 := hk.see 277 rfl rfl
          clear hk
          obtain rfl : wx = w1.drew := hP
          go_wp2_with fail
          all_goals first | exact hP | rfl
        case hst => exact fun h h' e => rfl
      apply And.intro
      · apply ob_quiet
        case hg => rfl
        case hop =>
          intro ax wx h k hlo hhi hP hk K hK
          have e272 := hk.see 272 rfl rfl
          have e278 := hk.see 278 rfl rfl
          clear hk
          obtain rfl : wx = w1.drew := hP
          go_wp2_with fail
          all_goals first | exact hP | rfl
        case hst => exact fun h h' e => rfl
      apply And.intro
      · apply ob_quiet
        case hg => rfl
        case hop =>
          intro ax wx h k hlo hhi hP hk K hK
          have e279 := hk.see 279 rfl rfl
          clear hk
          go_wp2_with fail
          all_goals first | exact hP | rfl
        case hst => exact fun h h' e => rfl
      apply And.intro
      · apply ob_want
        case hg => rfl
        case hj => rfl
        case hv => exact fun _ => rfl
        case hop =>
          intro ax wx h k hlo hhi hP hk K hK
          have e18 := hk.see 18 rfl rfl
          clear hk
          go_wp2_with fail
          all_goals first | exact hP | rfl
        case hst => exact fun h h' e => rfl
      apply And.intro
      · apply ob_want
        case hg => rfl
        case hj => rfl
        case hv => exact fun _ => rfl
        case hop =>
          intro ax wx h k hlo hhi hP hk K hK
          have e281 := hk.see 281 rfl rfl
          clear hk
          obtain rfl : wx = w1.drew := hP
          go_wp2_with fail
          all_goals first | exact hP | rfl
        case hst => exact fun h h' e => rfl
      apply And.intro
      · apply ob_want
        case hg => rfl
        case hj => rfl
        case hv => exact fun _ => rfl
        case hop =>
          intro ax wx h k hlo hhi hP hk K hK
          have e282 := hk.see 282 rfl rfl
          clear hk
          go_wp2_with fail
          all_goals first | exact hP | rfl
        case hst => exact fun h h' e => rfl
      apply And.intro
      · apply ob_want
        case hg => rfl
        case hj => rfl
        case hv => exact fun _ => rfl
        case hop =>
          intro ax wx h k hlo hhi hP hk K hK
          have e18 := hk.see 18 rfl rfl
          clear hk
          go_wp2_with fail
          all_goals first | exact hP | rfl
        case hst => exact fun h h' e => rfl
      apply And.intro
      · apply ob_want
        case hg => rfl
        case hj => rfl
        case hv => exact fun _ => rfl
        case hop =>
          intro ax wx h k hlo hhi hP hk K hK
          have e284 := hk.see 284 rfl rfl
          clear hk
          obtain rfl : wx = w1.drew := hP
          go_wp2_with fail
          all_goals first | exact hP | rfl
        case hst => exact fun h h' e => rfl
      apply And.intro
      · apply ob_want
        case hg => rfl
        case hj => rfl
        case hv => exact fun _ => rfl
        case hop =>
          intro ax wx h k hlo hhi hP hk K hK
          have e285 := hk.see 285 rfl rfl
          clear hk
          obtain rfl : wx = w1.drew := hP
          go_wp2_with fail
          all_goals first | exact hP | rfl
        case hst => exact fun h h' e => rfl
      apply And.intro
      · apply ob_want
        case hg => rfl
        case hj => rfl
        case hv => exact fun _ => rfl
        case hop =>
          intro ax wx h k hlo hhi hP hk K hK
          have e286 := hk.see 286 rfl rfl
          clear hk
          obtain rfl : wx = w1.drew := hP
          go_wp2_with fail
          all_goals first | exact hP | rfl
        case hst => exact fun h h' e => rfl
      apply And.intro
      · apply ob_want
        case hg => rfl
        case hj => rfl
        case hv => exact fun _ => rfl
        case hop =>
          intro ax wx h k hlo hhi hP hk K hK
          have e4 := hk.see 4 rfl rfl
          clear hk
          go_wp2_with fail
          all_goals first | exact hP | rfl
        case hst => exact fun h h' e => rfl
      apply And.intro
      · apply ob_want
        case hg => rfl
        case hj => rfl
        case hv => exact fun _ => rfl
        case hop =>
          intro ax wx h k hlo hhi hP hk K hK
          have e288 := hk.see 288 rfl rfl
          clear hk
          obtain rfl : wx = w1.drew := hP
          go_wp2_with fail
          all_goals first | exact hP | rfl
        case hst => exact fun h h' e => rfl
      apply And.intro
      · apply ob_want
        case hg => rfl
        case hj => rfl
        case hv => exact fun _ => rfl
        case hop =>
          intro ax wx h k hlo hhi hP hk K hK
          have e289 := hk.see 289 rfl rfl
          clear hk
          obtain rfl : wx = w1.drew := hP
          go_wp2_with fail
          all_goals first | exact hP | rfl
        case hst => exact fun h h' e => rfl
      apply And.intro
      · apply ob_want
        case hg => rfl
        case hj => rfl
        case hv => exact fun _ => rfl
        case hop =>
          intro ax wx h k hlo hhi hP hk K hK
          have e290 := hk.see 290 rfl rfl
          clear hk
          obtain rfl : wx = w1.drew := hP
          have hcx := HC.out
          go_wp2_with fail
          all_goals first | exact hP | rfl
        case hst => exact fun h h' e => rfl
      apply And.intro
      · apply ob_want
        case hg => rfl
        case hj => rfl
        case hv => exact fun _ => rfl
        case hop =>
          intro ax wx h k hlo hhi hP hk K hK
          have e4 := hk.see 4 rfl rfl
          clear hk
          go_wp2_with fail
          all_goals first | exact hP | rfl
        case hst => exact fun h h' e => rfl
      apply And.intro
      · apply ob_want
        case hg => rfl
        case hj => rfl
        case hv => exact fun _ => rfl
        case hop =>
          intro ax wx h k hlo hhi hP hk K hK
          have e292 := hk.see 292 rfl rfl
          clear hk
          obtain rfl : wx = w1.drew := hP
          go_wp2_with fail
          all_goals first | exact hP | rfl
        case hst => exact fun h h' e => rfl
      apply And.intro
      · apply ob_want
        case hg => rfl
        case hj => rfl
        case hv => exact fun _ => rfl
        case hop =>
          intro ax wx h k hlo hhi hP hk K hK
          have e293 := hk.see 293 rfl rfl
          clear hk
          obtain rfl : wx = w1.drew := hP
          go_wp2_with fail
          all_goals first | exact hP | rfl
        case hst => exact fun h h' e => rfl
      apply And.intro
      · apply ob_want
        case hg => rfl
        case hj => rfl
        case hv => exact fun _ => rfl
        case hop =>
          intro ax wx h k hlo hhi hP hk K hK
          have e294 := hk.see 294 rfl rfl
          clear hk
          obtain rfl : wx = w1.drew := hP
          have hcx := HC.out
          go_wp2_with fail
          all_goals first | exact hP | rfl
        case hst => exact fun h h' e => rfl
      apply And.intro
      · apply ob_want
        case hg => rfl
        case hj => rfl
        case hv => exact fun _ => rfl
        case hop =>
          intro ax wx h k hlo hhi hP hk K hK
          have e295 := hk.see 295 rfl rfl
          clear hk
          obtain rfl : wx = w1.drew := hP
          go_wp2_with fail
          all_goals first | exact hP | rfl
        case hst => exact fun h h' e => rfl
      apply And.intro
      · apply ob_want
        case hg => rfl
        case hj => rfl
        case hv => exact fun _ => rfl
        case hop =>
          intro ax wx h k hlo hhi hP hk K hK
          have e296 := hk.see 296 rfl rfl
          clear hk
          obtain rfl : wx = w1.drew := hP
          go_wp2_with fail
          all_goals first | exact hP | rfl
        case hst => exact fun h h' e => rfl
      apply And.intro
      · apply ob_want
        case hg => rfl
        case hj => rfl
        case hv => exact fun _ => rfl
        case hop =>
          intro ax wx h k hlo hhi hP hk K hK
          have e291 := hk.see 291 rfl rfl
          have e297 := hk.see 297 rfl rfl
          clear hk
          obtain rfl : wx = w1.drew := hP
          go_wp2_with fail
          all_goals first | exact hP | rfl
        case hst => exact fun h h' e => rfl
      apply And.intro
      · apply ob_want
        case hg => rfl
        case hj => rfl
        case hv => exact fun _ => rfl
        case hop =>
          intro ax wx h k hlo hhi hP hk K hK
          have e298 := hk.see 298 rfl rfl
          clear hk
          obtain rfl : wx = w1.drew := hP
          go_wp2_with fail
          all_goals first | exact hP | rfl
        case hst => exact fun h h' e => rfl
      apply And.intro
      · apply ob_want
        case hg => rfl
        case hj => rfl
        case hv => exact fun _ => rfl
        case hop =>
          intro ax wx h k hlo hhi hP hk K hK
          have e299 := hk.see 299 rfl rfl
          clear hk
          obtain rfl : wx = w1.drew := hP
          go_wp2_with fail
          all_goals first | exact hP | rfl
        case hst => exact fun h h' e => rfl
      apply And.intro
      · apply ob_want
        case hg => rfl
        case hj => rfl
        case hv => exact fun _ => rfl
        case hop =>
          intro ax wx h k hlo hhi hP hk K hK
          have e287 := hk.see 287 rfl rfl
          have e300 := hk.see 300 rfl rfl
          clear hk
          obtain rfl : wx = w1.drew := hP
          go_wp2_with fail
          all_goals first | exact hP | rfl
        case hst => exact fun h h' e => rfl
      apply And.intro
      · apply ob_want
        case hg => rfl
        case hj => rfl
        case hv => exact fun _ => rfl
        case hop =>
          intro ax wx h k hlo hhi hP hk K hK
          have e301 := hk.see 301 rfl rfl
          clear hk
          go_wp2_with fail
          all_goals first | exact hP | rfl
        case hst => exact fun h h' e => rfl
      apply And.intro
      · apply ob_want
        case hg => rfl
        case hj => rfl
        case hv => exact fun _ => rfl
        case hop =>
          intro ax wx h k hlo hhi hP hk K hK
          have e18 := hk.see 18 rfl rfl
          clear hk
          go_wp2_with fail
          all_goals first | exact hP | rfl
        case hst => exact fun h h' e => rfl
      apply And.intro
      · apply ob_want
        case hg => rfl
        case hj => rfl
        case hv => exact fun _ => rfl
        case hop =>
          intro ax wx h k hlo hhi hP hk K hK
          have e303 := hk.see 303 rfl rfl
          clear hk
          obtain rfl : wx = w1.drew := hP
          go_wp2_with fail
          all_goals first | exact hP | rfl
        case hst => exact fun h h' e => rfl
      apply And.intro
      · apply ob_want
        case hg => rfl
        case hj => rfl
        case hv => exact fun _ => rfl
        case hop =>
          intro ax wx h k hlo hhi hP hk K hK
          have e304 := hk.see 304 rfl rfl
          clear hk
          obtain rfl : wx = w1.drew := hP
          go_wp2_with fail
          all_goals first | exact hP | rfl
        case hst => exact fun h h' e => rfl
      apply And.intro
      · apply ob_want
        case hg => rfl
        case hj => rfl
        case hv => exact fun _ => rfl
        case hop =>
          intro ax wx h k hlo hhi hP hk K hK
          have e305 := hk.see 305 rfl rfl
          clear hk
          obtain rfl : wx = w1.drew := hP
          go_wp2_with fail
          all_goals first | exact hP | rfl
        case hst => exact fun h h' e => rfl
      apply And.intro
      · apply ob_want
        case hg => rfl
        case hj => rfl
        case hv => exact fun _ => rfl
        case hop =>
          intro ax wx h k hlo hhi hP hk K hK
          have e4 := hk.see 4 rfl rfl
          clear hk
          go_wp2_with fail
          all_goals first | exact hP | rfl
        case hst => exact fun h h' e => rfl
      apply And.intro
      · apply ob_want
        case hg => rfl
        case hj => rfl
        case hv => exact fun _ => rfl
        case hop =>
          intro ax wx h k hlo hhi hP hk K hK
          have e307 := hk.see 307 rfl rfl
          clear hk
          obtain rfl : wx = w1.drew := hP
          go_wp2_with fail
          all_goals first | exact hP | rfl
        case hst => exact fun h h' e => rfl
      apply And.intro
      · apply ob_want
        case hg => rfl
        case hj => rfl
        case hv => exact fun _ => rfl
        case hop =>
          intro ax wx h k hlo hhi hP hk K hK
          have e308 := hk.see 308 rfl rfl
          clear hk
          obtain rfl : wx = w1.drew := hP
          go_wp2_with fail
          all_goals first | exact hP | rfl
        case hst => exact fun h h' e => rfl
      apply And.intro
      · apply ob_want
        case hg => rfl
        case hj => rfl
        case hv => exact fun _ => rfl
        case hop =>
          intro ax wx h k hlo hhi hP hk K hK
          have e309 := hk.see 309 rfl rfl
          clear hk
          obtain rfl : wx = w1.drew := hP
          have hcx := HC.out
          go_wp2_with fail
          all_goals first | exact hP | rfl
        case hst => exact fun h h' e => rfl
      apply And.intro
      · apply ob_want
        case hg => rfl
        case hj => rfl
        case hv => exact fun _ => rfl
        case hop =>
          intro ax wx h k hlo hhi hP hk K hK
          have e4 := hk.see 4 rfl rfl
          clear hk
          go_wp2_with fail
          all_goals first | exact hP | rfl
        case hst => exact fun h h' e => rfl
      apply And.intro
      · apply ob_want
        case hg => rfl
        case hj => rfl
        case hv => exact fun _ => rfl
        case hop =>
          intro ax wx h k hlo hhi hP hk K hK
          have e311 := hk.see 311 rfl rfl
          clear hk
          obtain rfl : wx = w1.drew := hP
          go_wp2_with fail
          all_goals first | exact hP | rfl
        case hst => exact fun h h' e => rfl
      apply And.intro
      · apply ob_want
        case hg => rfl
        case hj => rfl
        case hv => exact fun _ => rfl
        case hop =>
          intro ax wx h k hlo hhi hP hk K hK
          have e312 := hk.see 312 rfl rfl
          clear hk
          obtain rfl : wx = w1.drew := hP
          go_wp2_with fail
          all_goals first | exact hP | rfl
        case hst => exact fun h h' e => rfl
      apply And.intro
      · apply ob_want
        case hg => rfl
        case hj => rfl
        case hv => exact fun _ => rfl
        case hop =>
          intro ax wx h k hlo hhi hP hk K hK
          have e313 := hk.see 313 rfl rfl
          clear hk
          obtain rfl : wx = w1.drew := hP
          have hcx := HC.out
          go_wp2_with fail
          all_goals first | exact hP | rfl
        case hst => exact fun h h' e => rfl
      apply And.intro
      · apply ob_want
        case hg => rfl
        case hj => rfl
        case hv => exact fun _ => rfl
        case hop =>
          intro ax wx h k hlo hhi hP hk K hK
          have e314 := hk.see 314 rfl rfl
          clear hk
          obtain rfl : wx = w1.drew := hP
          go_wp2_with fail
          all_goals first | exact hP | rfl
        case hst => exact fun h h' e => rfl
      apply And.intro
      · apply ob_want
        case hg => rfl
        case hj => rfl
        case hv => exact fun _ => rfl
        case hop =>
          intro ax wx h k hlo hhi hP hk K hK
          have e315 := hk.see 315 rfl rfl
          clear hk
          obtain rfl : wx = w1.drew := hP
          go_wp2_with fail
          all_goals first | exact hP | rfl
        case hst => exact fun h h' e => rfl
      apply And.intro
      · apply ob_want
        case hg => rfl
        case hj => rfl
        case hv => exact fun _ => rfl
        case hop =>
          intro ax wx h k hlo hhi hP hk K hK
          have e310 := hk.see 310 rfl rfl
          have e316 := hk.see 316 rfl rfl
          clear hk
          obtain rfl : wx = w1.drew := hP
          go_wp2_with fail
          all_goals first | exact hP | rfl
        case hst => exact fun h h' e => rfl
      apply And.intro
      · apply ob_want
        case hg => rfl
        case hj => rfl
        case hv => exact fun _ => rfl
        case hop =>
          intro ax wx h k hlo hhi hP hk K hK
          have e317 := hk.see 317 rfl rfl
          clear hk
          obtain rfl : wx = w1.drew := hP
          go_wp2_with fail
          all_goals first | exact hP | rfl
        case hst => exact fun h h' e => rfl
      apply And.intro
      · apply ob_want
        case hg => rfl
        case hj => rfl
        case hv => exact fun _ => rfl
        case hop =>
          intro ax wx h k hlo hhi hP hk K hK
          have e318 := hk.see 318 rfl rfl
          clear hk
          obtain rfl : wx = w1.drew := hP
          go_wp2_with fail
          all_goals first | exact hP | rfl
        case hst => exact fun h h' e => rfl
      apply And.intro
      · apply ob_want
        case hg => rfl
        case hj => rfl
        case hv => exact fun _ => rfl
        case hop =>
          intro ax wx h k hlo hhi hP hk K hK
          have e306 := hk.see 306 rfl rfl
          have e319 := hk.see 319 rfl rfl
          clear hk
          obtain rfl : wx = w1.drew := hP
          go_wp2_with fail
          all_goals first | exact hP | rfl
        case hst => exact fun h h' e => rfl
      apply And.intro
      · apply ob_want
        case hg => rfl
        case hj => rfl
        case hv => exact fun _ => rfl
        case hop =>
          intro ax wx h k hlo hhi hP hk K hK
          have e302 := hk.see 302 rfl rfl
          have e320 := hk.see 320 rfl rfl
          clear hk
          obtain rfl : wx = w1.drew := hP
          go_wp2_with fail
          all_goals first | exact hP | rfl
        case hst => exact fun h h' e => rfl
      apply And.intro
      · apply ob_want
        case hg => rfl
        case hj => rfl
        case hv => exact fun _ => rfl
        case hop =>
          intro ax wx h k hlo hhi hP hk K hK
          have e321 := hk.see 321 rfl rfl
          clear hk
          go_wp2_with fail
          all_goals first | exact hP | rfl
        case hst => exact fun h h' e => rfl
      apply And.intro
      · apply ob_want
        case hg => rfl
        case hj => rfl
        case hv => exact fun _ => rfl
        case hop =>
          intro ax wx h k hlo hhi hP hk K hK
          have e18 := hk.see 18 rfl rfl
          clear hk
          go_wp2_with fail
          all_goals first | exact hP | rfl
        case hst => exact fun h h' e => rfl
      apply And.intro
      · apply ob_want
        case hg => rfl
        case hj => rfl
        case hv => exact fun _ => rfl
        case hop =>
          intro ax wx h k hlo hhi hP hk K hK
          have e323 := hk.see 323 rfl rfl
          clear hk
          obtain rfl : wx = w1.drew := hP
          go_wp2_with fail
          all_goals first | exact hP | rfl
        case hst => exact fun h h' e => rfl
      apply And.intro
      · apply ob_want
        case hg => rfl
        case hj => rfl
        case hv => exact fun _ => rfl
        case hop =>
          intro ax wx h k hlo hhi hP hk K hK
          have e324 := hk.see 324 rfl rfl
          clear hk
          obtain rfl : wx = w1.drew := hP
          go_wp2_with fail
          all_goals first | exact hP | rfl
        case hst => exact fun h h' e => rfl
      apply And.intro
      · apply ob_want
        case hg => rfl
        case hj => rfl
        case hv => exact fun _ => rfl
        case hop =>
          intro ax wx h k hlo hhi hP hk K hK
          have e325 := hk.see 325 rfl rfl
          clear hk
          obtain rfl : wx = w1.drew := hP
          go_wp2_with fail
          all_goals first | exact hP | rfl
        case hst => exact fun h h' e => rfl
      apply And.intro
      · apply ob_want
        case hg => rfl
        case hj => rfl
        case hv => exact fun _ => rfl
        case hop =>
          intro ax wx h k hlo hhi hP hk K hK
          have e4 := hk.see 4 rfl rfl
          clear hk
          go_wp2_with fail
          all_goals first | exact hP | rfl
        case hst => exact fun h h' e => rfl
      apply And.intro
      · apply ob_want
        case hg => rfl
        case hj => rfl
        case hv => exact fun _ => rfl
        case hop =>
          intro ax wx h k hlo hhi hP hk K hK
          have e327 := hk.see 327 rfl rfl
          clear hk
          obtain rfl : wx = w1.drew := hP
          go_wp2_with fail
          all_goals first | exact hP | rfl
        case hst => exact fun h h' e => rfl
      apply And.intro
      · apply ob_want
        case hg => rfl
        case hj => rfl
        case hv => exact fun _ => rfl
        case hop =>
          intro ax wx h k hlo hhi hP hk K hK
          have e328 := hk.see 328 rfl rfl
          clear hk
          obtain rfl : wx = w1.drew := hP
          go_wp2_with fail
          all_goals first | exact hP | rfl
        case hst => exact fun h h' e => rfl
      apply And.intro
      · apply ob_want
        case hg => rfl
        case hj => rfl
        case hv => exact fun _ => rfl
        case hop =>
          intro ax wx h k hlo hhi hP hk K hK
          have e329 := hk.see 329 rfl rfl
          clear hk
          obtain rfl : wx = w1.drew := hP
          have hcx := HC.out
          go_wp2_with fail
          all_goals first | exact hP | rfl
        case hst => exact fun h h' e => rfl
      apply And.intro
      · apply ob_want
        case hg => rfl
        case hj => rfl
        case hv => exact fun _ => rfl
        case hop =>
          intro ax wx h k hlo hhi hP hk K hK
          have e4 := hk.see 4 rfl rfl
          clear hk
          go_wp2_with fail
          all_goals first | exact hP | rfl
        case hst => exact fun h h' e => rfl
      apply And.intro
      · apply ob_want
        case hg => rfl
        case hj => rfl
        case hv => exact fun _ => rfl
        case hop =>
          intro ax wx h k hlo hhi hP hk K hK
          have e331 := hk.see 331 rfl rfl
          clear hk
          obtain rfl : wx = w1.drew := hP
          go_wp2_with fail
          all_goals first | exact hP | rfl
        case hst => exact fun h h' e => rfl
      apply And.intro
      · apply ob_want
        case hg => rfl
        case hj => rfl
        case hv => exact fun _ => rfl
        case hop =>
          intro ax wx h k hlo hhi hP hk K hK
          have e332 := hk.see 332 rfl rfl
          clear hk
          obtain rfl : wx = w1.drew := hP
          go_wp2_with fail
          all_goals first | exact hP | rfl
        case hst => exact fun h h' e => rfl
      apply And.intro
      · apply ob_want
        case hg => rfl
        case hj => rfl
        case hv => exact fun _ => rfl
        case hop =>
          intro ax wx h k hlo hhi hP hk K hK
          have e333 := hk.see 333 rfl rfl
          clear hk
          obtain rfl : wx = w1.drew := hP
          have hcx := HC.out
          go_wp2_with fail
          all_goals first | exact hP | rfl
        case hst => exact fun h h' e => rfl
      apply And.intro
      · apply ob_want
        case hg => rfl
        case hj => rfl
        case hv => exact fun _ => rfl
        case hop =>
          intro ax wx h k hlo hhi hP hk K hK
          have e334 := hk.see 334 rfl rfl
          clear hk
          obtain rfl : wx = w1.drew := hP
          go_wp2_with fail
          all_goals first | exact hP | rfl
        case hst => exact fun h h' e => rfl
      apply And.intro
      · apply ob_want
        case hg => rfl
        case hj => rfl
        case hv => exact fun _ => rfl
        case hop =>
          intro ax wx h k hlo hhi hP hk K hK
          have e335 := hk.see 335 rfl rfl
          clear hk
          obtain rfl : wx = w1.drew := hP
          go_wp2_with fail
          all_goals first | exact hP | rfl
        case hst => exact fun h h' e => rfl
      apply And.intro
      · apply ob_want
        case hg => rfl
        case hj => rfl
        case hv => exact fun _ => rfl
        case hop =>
          intro ax wx h k hlo hhi hP hk K hK
          have e330 := hk.see 330 rfl rfl
          have e336 := hk.see 336 rfl rfl
          clear hk
          obtain rfl : wx = w1.drew := hP
          go_wp2_with fail
          all_goals first | exact hP | rfl
        case hst => exact fun h h' e => rfl
      apply And.intro
      · apply ob_want
        case hg => rfl
        case hj => rfl
        case hv => exact fun _ => rfl
        case hop =>
          intro ax wx h k hlo hhi hP hk K hK
          have e337 := hk.see 337 rfl rfl
          clear hk
          obtain rfl : wx = w1.drew := hP
          go_wp2_with fail
          all_goals first | exact hP | rfl
        case hst => exact fun h h' e => rfl
      apply And.intro
      · apply ob_want
        case hg => rfl
        case hj => rfl
        case hv => exact fun _ => rfl
        case hop =>
          intro ax wx h k hlo hhi hP hk K hK
          have e338 := hk.see 338 rfl rfl
          clear hk
          obtain rfl : wx = w1.drew := hP
          go_wp2_with fail
          all_goals first | exact hP | rfl
        case hst => exact fun h h' e => rfl
      apply And.intro
      · apply ob_want
        case hg => rfl
        case hj => rfl
        case hv => exact fun _ => rfl
        case hop =>
          intro ax wx h k hlo hhi hP hk K hK
          have e326 := hk.see 326 rfl rfl
          have e339 := hk.see 339 rfl rfl
          clear hk
          obtain rfl : wx = w1.drew := hP
          go_wp2_with fail
          all_goals first | exact hP | rfl
        case hst => exact fun h h' e => rfl
      apply And.intro
      · apply ob_want
        case hg => rfl
        case hj => rfl
        case hv => exact fun _ => rfl
        case hop =>
          intro ax wx h k hlo hhi hP hk K hK
          have e322 := hk.see 322 rfl rfl
          have e340 := hk.see 340 rfl rfl
          clear hk
          obtain rfl : wx = w1.drew := hP
          go_wp2_with fail
          all_goals first | exact hP | rfl
        case hst => exact fun h h' e => rfl
      apply And.intro
      · apply ob_want
        case hg => rfl
        case hj => rfl
        case hv => exact fun _ => rfl
        case hop =>
          intro ax wx h k hlo hhi hP hk K hK
          have e283 := hk.see 283 rfl rfl
          have e341 := hk.see 341 rfl rfl
          clear hk
          obtain rfl : wx = w1.drew := hP
          go_wp2_with fail
          all_goals first | exact hP | rfl
        case hst => exact fun h h' e => rfl
      apply And.intro
      · apply ob_quiet
        case hg => rfl
        case hop =>
          intro ax wx h k hlo hhi hP hk K hK
          have e280 := hk.see 280 rfl rfl
          have e342 := hk.see 342 rfl rfl
          clear hk
          obtain rfl : wx = w1.drew := hP
          go_wp2_with fail
          all_goals first | exact hP | rfl
        case hst => exact fun h h' e => rfl
      exact trivial
    intro w' a' h hP HF
    obtain rfl : w' = w1.drew := hP
    refine sl_then (wp_cond_false (HF.at 343 rfl) (wp_skip ?_))
    exact HQ.out _ _ (HF.keep [0, 3, 4, 5, 6]) HM1.out.drew
end Go.Proofs.Ytpjpmlhnhcmacaa
