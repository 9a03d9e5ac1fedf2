/- The law FrameDoes: the arms of the switch, first part: Pop, PopTo, At. -/
import Derived.Test.YtpjpmlhnhcmacaaFrdC
namespace Go.Proofs.Ytpjpmlhnhcmacaa
open Go.RowKit

/-- Where both stand behind k deeds. -/
structure DoOk (w0 : World) (g gm k : Nat) (sv : Value) (d : FD) (wr : World) : Prop where
  st : FSP 0 w0 wr d
  g : d.g = g
  gm : d.gm = gm
  sv : d.sv = sv
  sd : d.sd = d.ss
  fl : d.acs.map (·.a) = d.fl
  cs : d.cs = d.bs.map (·.1)
  lst : d.lst = d.last
  l0 : 0 ≤ d.last
  l1 : d.last ≤ k
  f1 : d.fl.length ≤ k
  f2 : d.ss.length ≤ k
  f3 : ∀ s ∈ d.ss, s.vars.length ≤ 300
  f4 : ∀ a ∈ d.fl, a.stack.length ≤ 20
def DoSt (w0 : World) (g gm k : Nat) (sv : Value) (wr : World) : Prop := ∃ d, DoOk w0 g gm k sv d wr

theorem DoOk.keep {w0 wr w' : World} {g gm k : Nat} {sv : Value} {d : FD} (h : DoOk w0 g gm k sv d wr) (hm : Mod Nil wr w') : DoOk w0 g gm k sv d w' :=
  ⟨h.st.keep0 hm, h.g, h.gm, h.sv, h.sd, h.fl, h.cs, h.lst, h.l0, h.l1, h.f1, h.f2, h.f3, h.f4⟩
theorem DoSt.keep {w0 wr w' : World} {g gm k : Nat} {sv : Value} (h : DoSt w0 g gm k sv wr) (hm : Mod Nil wr w') : DoSt w0 g gm k sv w' := by
  obtain ⟨d, hd⟩ := h
  exact ⟨d, hd.keep hm⟩
theorem DoOk.few {w0 wr : World} {g gm k : Nat} {sv : Value} {d : FD} (h : DoOk w0 g gm k sv d wr) (hk : k ≤ 40) : Few d := ⟨by have := h.f1; omega, by have := h.f2; omega, h.f3, h.f4⟩
theorem DoOk.endSt {w0 wr : World} {g gm k : Nat} {sv : Value} {d : FD} (h : DoOk w0 g gm k sv d wr) (hk : k ≤ 40) : EndSt w0 wr g gm d := ⟨h.st, h.g, h.gm, h.sd, h.fl, h.few hk⟩
theorem DoOk.up {w0 wr : World} {g gm k : Nat} {sv : Value} {d : FD} (h : DoOk w0 g gm k sv d wr) : DoOk w0 g gm (k + 1) sv d wr :=
  ⟨h.st, h.g, h.gm, h.sv, h.sd, h.fl, h.cs, h.lst, h.l0, by have := h.l1; omega, by have := h.f1; omega, by have := h.f2; omega, h.f3, h.f4⟩

/-- Where an arm of the switch begins. -/
structure ArmSt (w0 w : World) (g gm k : Nat) (d : FD) (bd : Nat) (dd : Deed) (B : Option Addr) (cB : Nat) (kk : Option Nat) : Prop where
  ok : DoOk w0 g gm k d.sv d w
  blk : DoBlk w bd dd B cB
  col : d.col bd = 6
  rd : Rd (fun b => b < w0.heap.size) w0 B (dd.l.map wv)
  kk : ∀ j, kk = some j → j < d.ss.length
  k40 : k < 40
  l20 : dd.l.length ≤ 20
  nhi : dd.n ≤ 9223372036854775807
  n300 : dd.kind = 0 → dd.n ≤ 300

theorem ArmSt.keep {w0 w w' : World} {g gm k bd cB : Nat} {d : FD} {dd : Deed} {B : Option Addr} {kk : Option Nat} (h : ArmSt w0 w g gm k d bd dd B cB kk) (hm : Mod Nil w w') : ArmSt w0 w' g gm k d bd dd B cB kk :=
  ⟨h.ok.keep hm, Blk.keep h.blk hm id, h.col, h.rd, h.kk, h.k40, h.l20, h.nhi, h.n300⟩

/-- A region with one writing operation: C holds throughout; what is yielded and what stands then. -/
structure PhOne (W : World) (C : World → Prop) (R : Value → World → Prop) (k : Nat) (h : Hist) (w : World) : Prop where
  c : C w
  s0 : k = 0 → w = W
  s1 : 0 < k → R (h 0) w

/-- A region with one store at its end. -/
structure PhSt (W W' : World) (k : Nat) (h : Hist) (w : World) : Prop where
  s0 : k = 0 → w = W
  s1 : k = 1 → w = W'
theorem PhSt.init (W W' : World) (h : Hist) : PhSt W W' 0 h W := ⟨fun _ => rfl, fun h => absurd h (by decide)⟩
theorem PhSt.done (W W' : World) (h : Hist) : PhSt W W' 1 h W' := ⟨fun h => absurd h (by decide), fun _ => rfl⟩

/-- The slice of the document's activations. -/
theorem DoOk.acts {w0 w : World} {g gm k : Nat} {sv : Value} {d : FD} (h : DoOk w0 g gm k sv d w) : ∃ A c, d.vl = .slice A d.fl.length c ∧ d.fl.length ≤ c ∧ w.cell? ⟨gm, 1, none⟩ = some (.slice A d.fl.length c) ∧ gm < w.heap.size := by
  have hrw := h.st.rw (by decide)
  have hl : d.acs.length = d.fl.length := by rw [← h.fl, List.length_map]
  obtain ⟨A, c, hv, hc1, _⟩ := own_slice hrw.acts
  have hc := hrw.blk.cell 1
  rw [h.gm] at hc
  exact ⟨A, c, by rw [hv, hl], by omega, by rw [hc]; simp [hv, hl], by rw [← h.gm]; exact hrw.blk.lt⟩

/-- Both lose their last activation. -/
theorem frdo_popped {w0 w w2 w' : World} {g gm k bd cB : Nat} {d : FD} {dd : Deed} {B : Option Addr} {kk : Option Nat} {n m c : Nat} {A : Option Addr} {v' : Value} {col : Nat → Nat} (hst : ArmSt w0 w g gm k d bd dd B cB kk) (hn : d.fl.length = n) (hv : d.vl = .slice A n c)
    (h1 : FSP 0 w0 w2 { d with col := col, v := v', fs := d.fs.take m, fl := d.fl.take m }) (hmn : m ≤ n) (hm : Mod Nil w2 w') :
    DoSt w0 g gm (k + 1) d.sv (w'.setCell ⟨gm, 1, none⟩ (.slice A m c)) := by
  obtain rfl := hst.ok.gm
  have hok := hst.ok
  have hrw := h1.rw (by decide)
  have hal : d.acs.length = n := by rw [← hn, ← hok.fl, List.length_map]
  have hrw' : RWd w0.heap.size (fun k => k < w0.heap.size) w2 d.gm d.vs (.slice A n c) d.rb d.sd d.acs d.lst := by rw [← hv]; exact hrw
  obtain ⟨q1, q2, q3⟩ := rcut_after hrw' hal hmn hm (fun j hj e => by have := hrw.low; simp only at this; omega)
  obtain ⟨h2, _⟩ := h1.rcut (n := m) (vl' := .slice A m c) q1 q2 (fun k hk => by simp only [hv]; exact q3 k hk)
  refine ⟨_, h2, hok.g, rfl, rfl, hok.sd, ?_, hok.cs, hok.lst, hok.l0, by have := hok.l1; simp only; omega, ?_, by have := hok.f2; simp only; omega, hok.f3, fun a ha => hok.f4 a (List.mem_of_mem_take ha)⟩
  · simp only [List.map_take, hok.fl]
  · have := hok.f1
    simp only [List.length_take]
    omega

set_option maxHeartbeats 3200000 in
set_option maxRecDepth 100000 in
theorem frdo_arm3 {Q : Exit → Act → World → Prop} {a : Act} {w w0 : World} {g gm k bd cB : Nat} {d : FD} {dd : Deed} {B : Option Addr} {kk oo : Option Nat} {v0 v6 v8 v9 v11 : Value}
    (HF : Sl 344 [(0, v0), (3, .pointer (some ⟨g, 0, none⟩)), (4, .pointer (some ⟨gm, 0, none⟩)), (5, d.sv), (6, v6), (7, .pointer (some ⟨bd, 0, none⟩)), (8, v8), (9, v9), (10, .int .i64 (upI oo)), (11, v11)] a)
    (hst : ArmSt w0 w g gm k d bd dd B cB kk)
    (hQ : ∀ a' w' sv', Sl 344 [(0, v0), (3, .pointer (some ⟨g, 0, none⟩)), (4, .pointer (some ⟨gm, 0, none⟩)), (5, sv'), (6, v6)] a' → DoSt w0 g gm (k + 1) sv' w' → Q .normal a' w') :
    (part [1, 1, 1, 1, 1, 0, 1, 0, 0, 1, 0, 0, 1, 1, 1, 1, 1, 1, 0, 1, 0, 1, 1, 1, 1, 1, 1, 1, 0] doBody).wp Try.prog Q a w := by
  obtain rfl := hst.ok.g
  obtain rfl := hst.ok.gm
  have HST := Lib.hid hst
  have HQ := Lib.hid hQ
  obtain ⟨A, c, hv, hnc, hc, hgl⟩ := hst.ok.acts
  obtain ⟨n, hn⟩ : ∃ n, d.fl.length = n := ⟨_, rfl⟩
  have hpop := fs_pop ((hst.ok.st).keep0 ((Mod.refl Nil w).drew)) (by rw [hst.ok.st.frl]; have := hst.ok.f1; have := hst.k40; omega)
  rw [hn] at hv hnc hc hpop
  have HV := Lib.hid hv
  have HC := Lib.hid hc
  have HN := Lib.hid hn
  have HPOP := Lib.hid hpop
  have hn40 : n ≤ 40 := by have := hst.ok.f1; have := hst.k40; omega
  clear hst hQ hv hc hn hpop
  -- the slice of the document's activations stays
  have hcp : ∀ w1 v' col (fs : List Fr) fl, FSP 0 w0 w1 { d with col := col, v := v', fs := fs, fl := fl } → w1.cell? ⟨d.gm, 1, none⟩ = some (.slice A n c) := by
    intro w1 v' col fs fl h1
    have := (h1.rw (by decide)).blk.cell 1
    rw [this]
    simp [HV.out]
  have HCP := Lib.hid hcp
  clear hcp
  rcases n with _ | m
  · conv => arg 2; whnf
    refine wp_seq ?_
    refine wp_seq ?_
    apply sl_flow5 (N := 1) [some 218, some 219, some 220, some 221, some 222, some 223, some 224, some 225, some 226] [.quiet 0 0, .writes 0, .quiet 0 1, .quiet 0 1, .quiet 0 1, .quiet 0 1, .quiet 0 1, .quiet 0 1, .quiet 1 1] (PhOne w.drew (fun wx => wx.cell? ⟨d.gm, 1, none⟩ = some (.slice A 0 c)) (fun v wx => v = .bool false ∧ ∃ v' col, FSP 0 w0 wx { d with col := col, v := v', fs := d.fs.take 0, fl := d.fl.take 0 })) [_, (fun h => h 0), _, _, _, _, _, _, _] HF
    case hm => kernel_rfl
    case hok => kernel_rfl
    case hfl => rfl
    case h0 => exact (fun _ => ⟨HC.out, fun _ => rfl, fun h => absurd h (by decide)⟩)
    case hobs =>
      apply And.intro
      · apply ob_quiet
        case hg => rfl
        case hop =>
          intro ax wx h k hlo hhi hP hk K hK
          have e3 := hk.see 3 rfl rfl
          clear hk
          go_wp2_with fail
          all_goals first | exact hP | rfl
        case hst => exact fun h h' e => rfl
      refine And.intro (ob_writes rfl ?op) ?_
      case op =>
        intro ax wx h hP hk K hK
        have e218 := hk.see 218 rfl rfl
        clear hk
        obtain rfl : wx = w.drew := hP.s0 rfl
        clear hP
        go_wp2_with fail
        refine HPOP.out.mono ?_
        rintro r w' ⟨rfl, v', col, h1, h2⟩
        exact hK _ _ ⟨HCP.out _ _ _ _ _ h1, fun h => absurd h (by decide), fun _ => ⟨by rw [upd_same]; rfl, v', col, h1⟩⟩
      apply And.intro
      · apply ob_quiet
        case hg => rfl
        case hop =>
          intro ax wx h k hlo hhi hP hk K hK
          have e4 := hk.see 4 rfl rfl
          clear hk
          go_wp2_with fail
          all_goals first | exact hP | rfl
        case hst => exact fun h h' e => rfl
      apply And.intro
      · apply ob_quiet
        case hg => rfl
        case hop =>
          intro ax wx h k hlo hhi hP hk K hK
          have e220 := hk.see 220 rfl rfl
          clear hk
          go_wp2_with fail
          all_goals first | exact hP | rfl
        case hst => exact fun h h' e => rfl
      apply And.intro
      · apply ob_quiet
        case hg => rfl
        case hop =>
          intro ax wx h k hlo hhi hP hk K hK
          have e221 := hk.see 221 rfl rfl
          clear hk
          go_wp2_with fail
          all_goals first | exact hP | rfl
        case hst => exact fun h h' e => rfl
      apply And.intro
      · apply ob_quiet
        case hg => rfl
        case hop =>
          intro ax wx h k hlo hhi hP hk K hK
          have e222 := hk.see 222 rfl rfl
          clear hk
          have hcx := hP.c
          go_wp2_with fail
          all_goals first | exact hP | rfl
        case hst => exact fun h h' e => rfl
      apply And.intro
      · apply ob_quiet
        case hg => rfl
        case hop =>
          intro ax wx h k hlo hhi hP hk K hK
          have e223 := hk.see 223 rfl rfl
          clear hk
          go_wp2_with fail
          all_goals first | exact hP | rfl
        case hst => exact fun h h' e => rfl
      apply And.intro
      · apply ob_quiet
        case hg => rfl
        case hop =>
          intro ax wx h k hlo hhi hP hk K hK
          have e224 := hk.see 224 rfl rfl
          clear hk
          go_wp2_with fail
          all_goals first | exact hP | rfl
        case hst => exact fun h h' e => rfl
      apply And.intro
      · apply ob_quiet
        case hg => rfl
        case hop =>
          intro ax wx h k hlo hhi hP hk K hK
          have e219 := hk.see 219 rfl rfl
          have e225 := hk.see 225 rfl rfl
          try dsimp only at e219
          clear hk
          rw [(hP.s1 (by omega)).1] at e219
          go_wp2_with fail
          all_goals first | exact hP | rfl
        case hst => exact fun h h' e => by first | rfl | simp only [e 0 (by decide)]
      exact trivial
    intro w1 a' h hP HF
    obtain ⟨-, v', col, h1⟩ := hP.s1 (by decide)
    have hcx := HCP.out _ _ _ _ _ h1
    have hfz := (h1.rw (by decide)).blk.frozen 1
    have hgl1 := (h1.rw (by decide)).blk.lt
    simp only at hfz hgl1
    refine sl_then (wp_cond_false (HF.at 226 rfl) (wp_skip (sl_then ?_)))
    have H1 := Lib.hid h1
    clear h1 hP
    apply sl_flow5 (N := 1) [some 227, some 228, some 229, some 230, some 231, some 232, some 233, some 234, some 235, some 236, some 237, some 238, some 239, some 240, some 241, none] [.quiet 0 0, .quiet 0 0, .quiet 0 0, .quiet 0 0, .quiet 0 0, .quiet 0 0, .quiet 0 0, .quiet 0 0, .quiet 0 0, .quiet 0 0, .quiet 0 0, .quiet 0 0, .quiet 0 0, .quiet 0 0, .quiet 0 0, .writes 0] (PhSt w1.drew (w1.setCell ⟨d.gm, 1, none⟩ (.slice A 0 c)).drew) [_, _, _, _, _, _, _, _, _, _, _, _, _, _, _, (fun h => h 0)] HF
    case hm => kernel_rfl
    case hok => kernel_rfl
    case hfl => rfl
    case h0 => exact (PhSt.init _ _)
    case hobs =>
      apply And.intro
      · apply ob_quiet
        case hg => rfl
        case hop =>
          intro ax wx h k hlo hhi hP hk K hK
          have e4 := hk.see 4 rfl rfl
          clear hk
          go_wp2_with fail
          all_goals first | exact hP | rfl
        case hst => exact fun h h' e => rfl
      apply And.intro
      · apply ob_quiet
        case hg => rfl
        case hop =>
          intro ax wx h k hlo hhi hP hk K hK
          have e4 := hk.see 4 rfl rfl
          clear hk
          go_wp2_with fail
          all_goals first | exact hP | rfl
        case hst => exact fun h h' e => rfl
      apply And.intro
      · apply ob_quiet
        case hg => rfl
        case hop =>
          intro ax wx h k hlo hhi hP hk K hK
          have e228 := hk.see 228 rfl rfl
          clear hk
          obtain rfl : wx = w1.drew := hP.s0 (by omega)
          go_wp2_with fail
          all_goals first | exact hP | rfl
        case hst => exact fun h h' e => rfl
      apply And.intro
      · apply ob_quiet
        case hg => rfl
        case hop =>
          intro ax wx h k hlo hhi hP hk K hK
          have e229 := hk.see 229 rfl rfl
          clear hk
          obtain rfl : wx = w1.drew := hP.s0 (by omega)
          go_wp2_with fail
          all_goals first | exact hP | rfl
        case hst => exact fun h h' e => rfl
      apply And.intro
      · apply ob_quiet
        case hg => rfl
        case hop =>
          intro ax wx h k hlo hhi hP hk K hK
          have e230 := hk.see 230 rfl rfl
          clear hk
          obtain rfl : wx = w1.drew := hP.s0 (by omega)
          go_wp2_with fail
          all_goals first | exact hP | rfl
        case hst => exact fun h h' e => rfl
      apply And.intro
      · apply ob_quiet
        case hg => rfl
        case hop =>
          intro ax wx h k hlo hhi hP hk K hK
          have e4 := hk.see 4 rfl rfl
          clear hk
          go_wp2_with fail
          all_goals first | exact hP | rfl
        case hst => exact fun h h' e => rfl
      apply And.intro
      · apply ob_quiet
        case hg => rfl
        case hop =>
          intro ax wx h k hlo hhi hP hk K hK
          have e232 := hk.see 232 rfl rfl
          clear hk
          obtain rfl : wx = w1.drew := hP.s0 (by omega)
          go_wp2_with fail
          all_goals first | exact hP | rfl
        case hst => exact fun h h' e => rfl
      apply And.intro
      · apply ob_quiet
        case hg => rfl
        case hop =>
          intro ax wx h k hlo hhi hP hk K hK
          have e233 := hk.see 233 rfl rfl
          clear hk
          obtain rfl : wx = w1.drew := hP.s0 (by omega)
          go_wp2_with fail
          all_goals first | exact hP | rfl
        case hst => exact fun h h' e => rfl
      apply And.intro
      · apply ob_quiet
        case hg => rfl
        case hop =>
          intro ax wx h k hlo hhi hP hk K hK
          have e234 := hk.see 234 rfl rfl
          clear hk
          obtain rfl : wx = w1.drew := hP.s0 (by omega)
          go_wp2_with fail
          all_goals first | exact hP | rfl
        case hst => exact fun h h' e => rfl
      apply And.intro
      · apply ob_quiet
        case hg => rfl
        case hop =>
          intro ax wx h k hlo hhi hP hk K hK
          have e235 := hk.see 235 rfl rfl
          clear hk
          obtain rfl : wx = w1.drew := hP.s0 (by omega)
          go_wp2_with fail
          all_goals first | exact hP | rfl
        case hst => exact fun h h' e => rfl
      apply And.intro
      · apply ob_quiet
        case hg => rfl
        case hop =>
          intro ax wx h k hlo hhi hP hk K hK
          have e236 := hk.see 236 rfl rfl
          clear hk
          obtain rfl : wx = w1.drew := hP.s0 (by omega)
          go_wp2_with fail
          all_goals first | exact hP | rfl
        case hst => exact fun h h' e => rfl
      apply And.intro
      · apply ob_quiet
        case hg => rfl
        case hop =>
          intro ax wx h k hlo hhi hP hk K hK
          have e237 := hk.see 237 rfl rfl
          clear hk
          obtain rfl : wx = w1.drew := hP.s0 (by omega)
          go_wp2_with fail
          all_goals first | exact hP | rfl
        case hst => exact fun h h' e => rfl
      apply And.intro
      · apply ob_quiet
        case hg => rfl
        case hop =>
          intro ax wx h k hlo hhi hP hk K hK
          have e231 := hk.see 231 rfl rfl
          have e238 := hk.see 238 rfl rfl
          clear hk
          obtain rfl : wx = w1.drew := hP.s0 (by omega)
          go_wp2_with fail
          all_goals first | exact hP | rfl
        case hst => exact fun h h' e => rfl
      apply And.intro
      · apply ob_quiet
        case hg => rfl
        case hop =>
          intro ax wx h k hlo hhi hP hk K hK
          have e227 := hk.see 227 rfl rfl
          clear hk
          obtain rfl : wx = w1.drew := hP.s0 (by omega)
          go_wp2_with fail
          all_goals first | exact hP | rfl
        case hst => exact fun h h' e => rfl
      apply And.intro
      · apply ob_quiet
        case hg => rfl
        case hop =>
          intro ax wx h k hlo hhi hP hk K hK
          have e240 := hk.see 240 rfl rfl
          clear hk
          obtain rfl : wx = w1.drew := hP.s0 (by omega)
          go_wp2_with fail
          all_goals first | exact hP | rfl
        case hst => exact fun h h' e => rfl
      refine And.intro (ob_writes rfl ?op) ?_
      case op =>
        intro ax wx h hP hk K hK
        have e241 := hk.see 241 rfl rfl
        have e239 := hk.see 239 rfl rfl
        clear hk
        obtain rfl : wx = w1.drew := hP.s0 rfl
        clear hP
        go_wp2_with fail
        exact hK undef _ (PhSt.done _ _ _)
      exact trivial
    intro w2 a2 h2 hP HF
    obtain rfl := hP.s1 rfl
    exact HQ.out _ _ _ (HF.keep [0, 3, 4, 5, 6]) ((frdo_popped HST.out HN.out HV.out H1.out (Nat.le_refl _) (Mod.refl Nil w1)).keep ((Mod.refl Nil _).drew))
  · conv => arg 2; whnf
    refine wp_seq ?_
    refine wp_seq ?_
    apply sl_flow5 (N := 1) [some 218, some 219, some 220, some 221, some 222, some 223, some 224, some 225, some 226] [.quiet 0 0, .writes 0, .quiet 0 1, .quiet 0 1, .quiet 0 1, .quiet 0 1, .quiet 0 1, .quiet 0 1, .quiet 1 1] (PhOne w.drew (fun wx => wx.cell? ⟨d.gm, 1, none⟩ = some (.slice A (m + 1) c)) (fun v wx => v = .bool true ∧ ∃ v' col, FSP 0 w0 wx { d with col := col, v := v', fs := d.fs.take m, fl := d.fl.take m })) [_, (fun h => h 0), _, _, _, _, _, _, _] HF
    case hm => kernel_rfl
    case hok => kernel_rfl
    case hfl => rfl
    case h0 => exact (fun _ => ⟨HC.out, fun _ => rfl, fun h => absurd h (by decide)⟩)
    case hobs =>
      apply And.intro
      · apply ob_quiet
        case hg => rfl
        case hop =>
          intro ax wx h k hlo hhi hP hk K hK
          have e3 := hk.see 3 rfl rfl
          clear hk
          go_wp2_with fail
          all_goals first | exact hP | rfl
        case hst => exact fun h h' e => rfl
      refine And.intro (ob_writes rfl ?op) ?_
      case op =>
        intro ax wx h hP hk K hK
        have e218 := hk.see 218 rfl rfl
        clear hk
        obtain rfl : wx = w.drew := hP.s0 rfl
        clear hP
        go_wp2_with fail
        refine HPOP.out.mono ?_
        rintro r w' ⟨rfl, v', col, h1, h2⟩
        simp only [Nat.add_sub_cancel] at h1
        exact hK _ _ ⟨HCP.out _ _ _ _ _ h1, fun h => absurd h (by decide), fun _ => ⟨by rw [upd_same]; simp, v', col, h1⟩⟩
      apply And.intro
      · apply ob_quiet
        case hg => rfl
        case hop =>
          intro ax wx h k hlo hhi hP hk K hK
          have e4 := hk.see 4 rfl rfl
          clear hk
          go_wp2_with fail
          all_goals first | exact hP | rfl
        case hst => exact fun h h' e => rfl
      apply And.intro
      · apply ob_quiet
        case hg => rfl
        case hop =>
          intro ax wx h k hlo hhi hP hk K hK
          have e220 := hk.see 220 rfl rfl
          clear hk
          go_wp2_with fail
          all_goals first | exact hP | rfl
        case hst => exact fun h h' e => rfl
      apply And.intro
      · apply ob_quiet
        case hg => rfl
        case hop =>
          intro ax wx h k hlo hhi hP hk K hK
          have e221 := hk.see 221 rfl rfl
          clear hk
          go_wp2_with fail
          all_goals first | exact hP | rfl
        case hst => exact fun h h' e => rfl
      apply And.intro
      · apply ob_quiet
        case hg => rfl
        case hop =>
          intro ax wx h k hlo hhi hP hk K hK
          have e222 := hk.see 222 rfl rfl
          clear hk
          have hcx := hP.c
          go_wp2_with fail
          all_goals first | exact hP | rfl
        case hst => exact fun h h' e => rfl
      apply And.intro
      · apply ob_quiet
        case hg => rfl
        case hop =>
          intro ax wx h k hlo hhi hP hk K hK
          have e223 := hk.see 223 rfl rfl
          clear hk
          go_wp2_with fail
          all_goals first | exact hP | rfl
        case hst => exact fun h h' e => rfl
      apply And.intro
      · apply ob_quiet
        case hg => rfl
        case hop =>
          intro ax wx h k hlo hhi hP hk K hK
          have e224 := hk.see 224 rfl rfl
          clear hk
          go_wp2_with fail
          all_goals first | exact hP | rfl
        case hst => exact fun h h' e => rfl
      apply And.intro
      · apply ob_quiet
        case hg => rfl
        case hop =>
          intro ax wx h k hlo hhi hP hk K hK
          have e219 := hk.see 219 rfl rfl
          have e225 := hk.see 225 rfl rfl
          try dsimp only at e219
          clear hk
          rw [(hP.s1 (by omega)).1] at e219
          go_wp2_with fail
          all_goals first | exact hP | rfl
        case hst => exact fun h h' e => by first | rfl | simp only [e 0 (by decide)]
      exact trivial
    intro w1 a' h hP HF
    obtain ⟨-, v', col, h1⟩ := hP.s1 (by decide)
    have hcx := HCP.out _ _ _ _ _ h1
    have hfz := (h1.rw (by decide)).blk.frozen 1
    have hgl1 := (h1.rw (by decide)).blk.lt
    simp only at hfz hgl1
    refine sl_then (wp_cond_false (HF.at 226 rfl) (wp_skip (sl_then ?_)))
    have H1 := Lib.hid h1
    clear h1 hP
    apply sl_flow5 (N := 1) [some 227, some 228, some 229, some 230, some 231, some 232, some 233, some 234, some 235, some 236, some 237, some 238, some 239, some 240, some 241, none] [.quiet 0 0, .quiet 0 0, .quiet 0 0, .quiet 0 0, .quiet 0 0, .quiet 0 0, .quiet 0 0, .quiet 0 0, .quiet 0 0, .quiet 0 0, .quiet 0 0, .quiet 0 0, .quiet 0 0, .quiet 0 0, .quiet 0 0, .writes 0] (PhSt w1.drew (w1.setCell ⟨d.gm, 1, none⟩ (.slice A m c)).drew) [_, _, _, _, _, _, _, _, _, _, _, _, _, _, _, (fun h => h 0)] HF
    case hm => kernel_rfl
    case hok => kernel_rfl
    case hfl => rfl
    case h0 => exact (PhSt.init _ _)
    case hobs =>
      apply And.intro
      · apply ob_quiet
        case hg => rfl
        case hop =>
          intro ax wx h k hlo hhi hP hk K hK
          have e4 := hk.see 4 rfl rfl
          clear hk
          go_wp2_with fail
          all_goals first | exact hP | rfl
        case hst => exact fun h h' e => rfl
      apply And.intro
      · apply ob_quiet
        case hg => rfl
        case hop =>
          intro ax wx h k hlo hhi hP hk K hK
          have e4 := hk.see 4 rfl rfl
          clear hk
          go_wp2_with fail
          all_goals first | exact hP | rfl
        case hst => exact fun h h' e => rfl
      apply And.intro
      · apply ob_quiet
        case hg => rfl
        case hop =>
          intro ax wx h k hlo hhi hP hk K hK
          have e228 := hk.see 228 rfl rfl
          clear hk
          obtain rfl : wx = w1.drew := hP.s0 (by omega)
          go_wp2_with fail
          all_goals first | exact hP | rfl
        case hst => exact fun h h' e => rfl
      apply And.intro
      · apply ob_quiet
        case hg => rfl
        case hop =>
          intro ax wx h k hlo hhi hP hk K hK
          have e229 := hk.see 229 rfl rfl
          clear hk
          obtain rfl : wx = w1.drew := hP.s0 (by omega)
          go_wp2_with fail
          all_goals first | exact hP | rfl
        case hst => exact fun h h' e => rfl
      apply And.intro
      · apply ob_quiet
        case hg => rfl
        case hop =>
          intro ax wx h k hlo hhi hP hk K hK
          have e230 := hk.see 230 rfl rfl
          clear hk
          obtain rfl : wx = w1.drew := hP.s0 (by omega)
          go_wp2_with fail
          all_goals first | exact hP | rfl
        case hst => exact fun h h' e => rfl
      apply And.intro
      · apply ob_quiet
        case hg => rfl
        case hop =>
          intro ax wx h k hlo hhi hP hk K hK
          have e4 := hk.see 4 rfl rfl
          clear hk
          go_wp2_with fail
          all_goals first | exact hP | rfl
        case hst => exact fun h h' e => rfl
      apply And.intro
      · apply ob_quiet
        case hg => rfl
        case hop =>
          intro ax wx h k hlo hhi hP hk K hK
          have e232 := hk.see 232 rfl rfl
          clear hk
          obtain rfl : wx = w1.drew := hP.s0 (by omega)
          go_wp2_with fail
          all_goals first | exact hP | rfl
        case hst => exact fun h h' e => rfl
      apply And.intro
      · apply ob_quiet
        case hg => rfl
        case hop =>
          intro ax wx h k hlo hhi hP hk K hK
          have e233 := hk.see 233 rfl rfl
          clear hk
          obtain rfl : wx = w1.drew := hP.s0 (by omega)
          go_wp2_with fail
          all_goals first | exact hP | rfl
        case hst => exact fun h h' e => rfl
      apply And.intro
      · apply ob_quiet
        case hg => rfl
        case hop =>
          intro ax wx h k hlo hhi hP hk K hK
          have e234 := hk.see 234 rfl rfl
          clear hk
          obtain rfl : wx = w1.drew := hP.s0 (by omega)
          go_wp2_with fail
          all_goals first | exact hP | rfl
        case hst => exact fun h h' e => rfl
      apply And.intro
      · apply ob_quiet
        case hg => rfl
        case hop =>
          intro ax wx h k hlo hhi hP hk K hK
          have e235 := hk.see 235 rfl rfl
          clear hk
          obtain rfl : wx = w1.drew := hP.s0 (by omega)
          go_wp2_with fail
          all_goals first | exact hP | rfl
        case hst => exact fun h h' e => rfl
      apply And.intro
      · apply ob_quiet
        case hg => rfl
        case hop =>
          intro ax wx h k hlo hhi hP hk K hK
          have e236 := hk.see 236 rfl rfl
          clear hk
          obtain rfl : wx = w1.drew := hP.s0 (by omega)
          go_wp2_with fail
          all_goals first | exact hP | rfl
        case hst => exact fun h h' e => rfl
      apply And.intro
      · apply ob_quiet
        case hg => rfl
        case hop =>
          intro ax wx h k hlo hhi hP hk K hK
          have e237 := hk.see 237 rfl rfl
          clear hk
          obtain rfl : wx = w1.drew := hP.s0 (by omega)
          go_wp2_with fail
          all_goals first | exact hP | rfl
        case hst => exact fun h h' e => rfl
      apply And.intro
      · apply ob_quiet
        case hg => rfl
        case hop =>
          intro ax wx h k hlo hhi hP hk K hK
          have e231 := hk.see 231 rfl rfl
          have e238 := hk.see 238 rfl rfl
          clear hk
          obtain rfl : wx = w1.drew := hP.s0 (by omega)
          go_wp2_with fail
          all_goals first | exact hP | (obtain rfl : m = 0 := (by omega); exact hK _ hP)
        case hst => exact fun h h' e => rfl
      apply And.intro
      · apply ob_quiet
        case hg => rfl
        case hop =>
          intro ax wx h k hlo hhi hP hk K hK
          have e227 := hk.see 227 rfl rfl
          clear hk
          obtain rfl : wx = w1.drew := hP.s0 (by omega)
          go_wp2_with fail
          all_goals first | exact hP | rfl
        case hst => exact fun h h' e => rfl
      apply And.intro
      · apply ob_quiet
        case hg => rfl
        case hop =>
          intro ax wx h k hlo hhi hP hk K hK
          have e240 := hk.see 240 rfl rfl
          clear hk
          obtain rfl : wx = w1.drew := hP.s0 (by omega)
          go_wp2_with fail
          all_goals first | exact hP | rfl
        case hst => exact fun h h' e => rfl
      refine And.intro (ob_writes rfl ?op) ?_
      case op =>
        intro ax wx h hP hk K hK
        have e241 := hk.see 241 rfl rfl
        have e239 := hk.see 239 rfl rfl
        clear hk
        obtain rfl : wx = w1.drew := hP.s0 rfl
        clear hP
        go_wp2_with fail
        exact hK undef _ (PhSt.done _ _ _)
      exact trivial
    intro w2 a2 h2 hP HF
    obtain rfl := hP.s1 rfl
    exact HQ.out _ _ _ (HF.keep [0, 3, 4, 5, 6]) ((frdo_popped HST.out HN.out HV.out H1.out (Nat.le_succ m) (Mod.refl Nil w1)).keep ((Mod.refl Nil _).drew))

/-- Both cut down to the same activation. -/
structure PhPop (w0 W : World) (gm k0 bd : Nat) (d : FD) (p : Bool) (hn : Int) (sv : Value) (k : Nat) (h : Hist) (w : World) : Prop where
  c : w.cell? ⟨bd, 1, none⟩ = some (.int .i64 hn)
  s0 : k = 0 → w = W
  s1 : 0 < k → h 0 = .bool p
  s1' : k = 1 → ∃ v' col, FSP 0 w0 w { d with col := col, v := v', fs := d.fs.take (if 0 ≤ idx (d.fl.map (·.id)) hn then (idx (d.fl.map (·.id)) hn).toNat else d.fl.length), fl := d.fl.take (if 0 ≤ idx (d.fl.map (·.id)) hn then (idx (d.fl.map (·.id)) hn).toNat else d.fl.length) } ∧ Side W d.col w col
  s2 : 1 < k → h 1 = .bool p
  s2' : k = 2 → DoSt w0 d.g gm k0 sv w

set_option maxHeartbeats 3200000 in
set_option maxRecDepth 100000 in
theorem frdo_arm4 {Q : Exit → Act → World → Prop} {a : Act} {w w0 : World} {g gm k bd cB : Nat} {d : FD} {dd : Deed} {B : Option Addr} {kk oo : Option Nat} {v0 v6 v8 v9 v11 : Value}
    (HF : Sl 344 [(0, v0), (3, .pointer (some ⟨g, 0, none⟩)), (4, .pointer (some ⟨gm, 0, none⟩)), (5, d.sv), (6, v6), (7, .pointer (some ⟨bd, 0, none⟩)), (8, v8), (9, v9), (10, .int .i64 (upI oo)), (11, v11)] a)
    (hst : ArmSt w0 w g gm k d bd dd B cB kk)
    (hQ : ∀ a' w' sv', Sl 344 [(0, v0), (3, .pointer (some ⟨g, 0, none⟩)), (4, .pointer (some ⟨gm, 0, none⟩)), (5, sv'), (6, v6)] a' → DoSt w0 g gm (k + 1) sv' w' → Q .normal a' w') :
    (part [1, 1, 1, 1, 1, 0, 1, 0, 0, 1, 0, 0, 1, 1, 1, 1, 1, 1, 0, 1, 0, 1, 1, 1, 1, 1, 1, 1, 1, 1, 0] doBody).wp Try.prog Q a w := by
  obtain rfl := hst.ok.g
  obtain rfl := hst.ok.gm
  have HST := Lib.hid hst
  have HQ := Lib.hid hQ
  obtain ⟨p, hp⟩ : ∃ p, p = decide (0 ≤ idx (d.fl.map (·.id)) dd.n) := ⟨_, rfl⟩
  have hc1 := hst.blk.cell 1
  have hl200 : d.fs.length ≤ 200 := by rw [hst.ok.st.frl]; have := hst.ok.f1; have := hst.k40; omega
  have hpop := fs_popTo ((hst.ok.st).keep0 ((Mod.refl Nil w).drew)) dd.n hl200
  rw [← hp] at hpop
  have HC := Lib.hid (show w.cell? ⟨bd, 1, none⟩ = some (.int .i64 dd.n) from hc1)
  have HPOP := Lib.hid hpop
  have HP0 := Lib.hid hp
  clear hst hQ hc1 hpop hp hl200
  conv => arg 2; whnf
  refine wp_seq ?_
  apply sl_flow5 (N := 2) [some 244, some 245, some 246, some 247, some 248, some 249, some 250, some 251, some 252] [.quiet 0 0, .quiet 0 0, .quiet 0 0, .writes 0, .quiet 0 1, .quiet 0 1, .quiet 0 1, .writes 1, .quiet 2 2] (PhPop w0 w.drew d.gm (k + 1) bd d p dd.n d.sv) [_, _, _, (fun h => h 0), _, _, _, (fun h => h 1), _] HF
  case hm => kernel_rfl
  case hok => kernel_rfl
  case hfl => rfl
  case h0 => exact (fun _ => ⟨HC.out, fun _ => rfl, fun h => absurd h (by decide), fun h => absurd h (by decide), fun h => absurd h (by decide), fun h => absurd h (by decide)⟩)
  case hobs =>
    apply And.intro
    · apply ob_quiet
      case hg => rfl
      case hop =>
        intro ax wx h k hlo hhi hP hk K hK
        have e3 := hk.see 3 rfl rfl
        clear hk
        go_wp2_with fail
        all_goals first | exact hP | rfl
      case hst => exact fun h h' e => rfl
    apply And.intro
    · apply ob_quiet
      case hg => rfl
      case hop =>
        intro ax wx h k hlo hhi hP hk K hK
        have e7 := hk.see 7 rfl rfl
        clear hk
        go_wp2_with fail
        all_goals first | exact hP | rfl
      case hst => exact fun h h' e => rfl
    apply And.intro
    · apply ob_quiet
      case hg => rfl
      case hop =>
        intro ax wx h k hlo hhi hP hk K hK
        have e245 := hk.see 245 rfl rfl
        clear hk
        have hcx := hP.c
        go_wp2_with fail
        all_goals first | exact hP | rfl
      case hst => exact fun h h' e => rfl
    refine And.intro (ob_writes rfl ?op) ?_
    case op =>
      intro ax wx h hP hk K hK
      have e244 := hk.see 244 rfl rfl
      have e246 := hk.see 246 rfl rfl
      clear hk
      obtain rfl : wx = w.drew := hP.s0 rfl
      clear hP
      go_wp2_with fail
      refine HPOP.out.mono ?_
      rintro r w' ⟨rfl, v', col, h1, h2⟩
      have hb := (h2 bd _ _ (Blk.drew HST.out.blk) HST.out.col).1.cell 1
      exact hK _ _ ⟨hb, fun h => absurd h (by decide), fun _ => upd_same _ _ _, fun _ => ⟨v', col, h1, h2⟩, fun h => absurd h (by decide), fun h => absurd h (by decide)⟩
    apply And.intro
    · apply ob_quiet
      case hg => rfl
      case hop =>
        intro ax wx h k hlo hhi hP hk K hK
        have e4 := hk.see 4 rfl rfl
        clear hk
        go_wp2_with fail
        all_goals first | exact hP | rfl
      case hst => exact fun h h' e => rfl
    apply And.intro
    · apply ob_quiet
      case hg => rfl
      case hop =>
        intro ax wx h k hlo hhi hP hk K hK
        have e7 := hk.see 7 rfl rfl
        clear hk
        go_wp2_with fail
        all_goals first | exact hP | rfl
      case hst => exact fun h h' e => rfl
    apply And.intro
    · apply ob_quiet
      case hg => rfl
      case hop =>
        intro ax wx h k hlo hhi hP hk K hK
        have e249 := hk.see 249 rfl rfl
        clear hk
        have hcx := hP.c
        go_wp2_with fail
        all_goals first | exact hP | rfl
      case hst => exact fun h h' e => rfl
    refine And.intro (ob_writes rfl ?op) ?_
    case op =>
      intro ax wx h hP hk K hK
      have e248 := hk.see 248 rfl rfl
      have e250 := hk.see 250 rfl rfl
      clear hk
      have hh0 := hP.s1 (by decide)
      obtain ⟨v', col, h1, h2⟩ := hP.s1' rfl
      obtain ⟨hb, hcb⟩ := h2 bd _ _ (Blk.drew HST.out.blk) HST.out.col
      have hok := HST.out.ok
      have hk40 := HST.out.k40
      have hal : d.acs.length = d.fl.length := by rw [← hok.fl, List.length_map]
      have hids : d.acs.map (·.a.id) = d.fl.map (·.id) := by rw [← hok.fl, List.map_map]; rfl
      have hr := fs_rpopTo h1 dd.n (by simp only [hal]; have := hok.f1; omega)
      simp only [hids] at hr
      rw [← HP0.out, hal] at hr
      have HR := Lib.hid hr
      have HOK := Lib.hid hok
      have HB := Lib.hid hb
      have HCB := Lib.hid hcb
      have HH := Lib.hid hh0
      have HIDS := Lib.hid hids
      clear hP hr hok hb hcb hh0 hids h1 h2 hal
      go_wp2_with fail
      refine HR.out.mono ?_
      rintro r w' ⟨rfl, vl', col', h1, h2⟩
      have hb' := (h2 bd _ _ HB.out HCB.out).1.cell 1
      refine hK _ _ ⟨hb', fun h => absurd h (by decide), fun _ => by rw [upd_ne _ _ (by decide)]; exact HH.out, fun h => absurd h (by decide), fun _ => upd_same _ _ _, fun _ => ?_⟩
      refine ⟨_, h1, rfl, rfl, rfl, HOK.out.sd, ?_, HOK.out.cs, HOK.out.lst, HOK.out.l0, by have := HOK.out.l1; simp only; omega, ?_, by have := HOK.out.f2; simp only; omega, HOK.out.f3, fun a ha => HOK.out.f4 a (List.mem_of_mem_take ha)⟩
      · simp only [List.map_take, HOK.out.fl]
      · have := HOK.out.f1
        simp only [List.length_take]
        omega
    apply And.intro
    · apply ob_quiet
      case hg => rfl
      case hop =>
        intro ax wx h k hlo hhi hP hk K hK
        have e247 := hk.see 247 rfl rfl
        have e251 := hk.see 251 rfl rfl
        try dsimp only at e247 e251
        clear hk
        rw [hP.s1 (by omega)] at e247
        rw [hP.s2 (by omega)] at e251
        go_wp2_with fail
        all_goals first | exact hP | rfl
      case hst => exact fun h h' e => by first | rfl | simp only [e 0 (by decide)] | simp only [e 1 (by decide)] | simp only [e 0 (by decide), e 1 (by decide)]
    exact trivial
  intro w1 a' h hP HF
  refine sl_then (wp_cond_false (HF.at 252 rfl) (wp_skip ?_))
  exact HQ.out _ _ _ (HF.keep [0, 3, 4, 5, 6]) (hP.s2' rfl)

set_option maxHeartbeats 3200000 in
set_option maxRecDepth 100000 in
theorem frdo_arm5 {Q : Exit → Act → World → Prop} {a : Act} {w w0 : World} {g gm k bd cB : Nat} {d : FD} {dd : Deed} {B : Option Addr} {kk oo : Option Nat} {v0 v6 v8 : Value} (hoo : oo = outI d.ss kk dd.n)
    (HF : Sl 344 [(0, v0), (3, .pointer (some ⟨g, 0, none⟩)), (4, .pointer (some ⟨gm, 0, none⟩)), (5, d.sv), (6, v6), (7, .pointer (some ⟨bd, 0, none⟩)), (8, v8), (9, upV (d.bs.map (·.1)) kk), (10, .int .i64 (upI oo)), (11, .bool (outVar d.ss oo dd.i).isSome)] a)
    (hst : ArmSt w0 w g gm k d bd dd B cB kk)
    (hQ : ∀ a' w' sv', Sl 344 [(0, v0), (3, .pointer (some ⟨g, 0, none⟩)), (4, .pointer (some ⟨gm, 0, none⟩)), (5, sv'), (6, v6)] a' → DoSt w0 g gm (k + 1) sv' w' → Q .normal a' w') :
    (part [1, 1, 1, 1, 1, 0, 1, 0, 0, 1, 0, 0, 1, 1, 1, 1, 1, 1, 0, 1, 0, 1, 1, 1, 1, 1, 1, 1, 1, 1, 1] doBody).wp Try.prog Q a w := by
  obtain rfl := hst.ok.g
  obtain rfl := hst.ok.gm
  have HST := Lib.hid hst
  have HQ := Lib.hid hQ
  have hsc := hst.ok.st.sc (by decide)
  have hat := at_any w0.heap.size d.bs d.ss kk dd.n dd.i w hsc hst.kk hst.nhi (fun s hs => by have := hst.ok.f3 s hs; omega)
  rw [← hoo] at hat
  have HAT := Lib.hid hat
  obtain ⟨u9, hu9⟩ : ∃ u, u = upV (d.bs.map (·.1)) kk := ⟨_, rfl⟩
  rw [← hu9] at HAT HF
  have hc1 := hst.blk.cell 1
  have hc3 := hst.blk.cell 3
  clear hst hQ hat hsc hoo hu9
  conv => arg 2; whnf
  refine wp_seq (wp_region_lit ?_)
  rcases hov : outVar d.ss oo dd.i with _ | j
  · rw [hov, Option.isSome_none] at HF
    rw [hov] at HAT
    refine sl_move HF rfl rfl (.inl rfl) (by decide) rfl ?_; clear HF; intro _ HF
    refine sl_op HF rfl rfl (by decide) ?_; intro K hK; have e7 := HF.see 7 rfl; go_wp2_with fail; clear e7 HF; intro _ HF
    refine sl_op HF rfl rfl (by decide) ?_; intro K hK; have e89 := HF.see 89 rfl; go_wp2_with fail; clear e89 HF; intro _ HF
    refine sl_op HF rfl rfl (by decide) ?_; intro K hK; have e7 := HF.see 7 rfl; go_wp2_with fail; clear e7 HF; intro _ HF
    refine sl_op HF rfl rfl (by decide) ?_; intro K hK; have e91 := HF.see 91 rfl; go_wp2_with fail; clear e91 HF; intro _ HF
    refine sl_op HF rfl rfl (by decide) ?_; intro K hK; have e88 := HF.see 88 rfl; have e90 := HF.see 90 rfl; have e92 := HF.see 92 rfl; go_wp2_with fail
    refine HAT.out.mono ?_
    rintro r w' ⟨hr, rfl⟩
    obtain rfl := hr
    clear hov
    go_wp2_with fail; clear e88 e90 e92 HF; intro _ HF
    refine sl_move HF rfl rfl (.inl rfl) (by decide) rfl ?_; clear HF; intro _ HF
    refine sl_op HF rfl rfl (by decide) ?_; intro K hK; have e87 := HF.see 87 rfl; go_wp2_with fail; clear e87 HF; intro _ HF
    refine sl_op HF rfl rfl (by decide) ?_; intro K hK; have e87 := HF.see 87 rfl; go_wp2_with fail; clear e87 HF; intro _ HF
    refine sl_move HF rfl rfl (.inr rfl) (by decide) rfl ?_; clear HF; intro _ HF
    refine sl_move HF rfl rfl (.inr rfl) (by decide) rfl ?_; clear HF; intro _ HF
    refine sl_nil (wp_seq ?_)
    apply sl_flow5 (N := 0) [some 96, some 97, some 98, some 99, some 100, some 101, some 102, some 103, some 104, some 105, some 106, some 107, some 108, some 109, some 110, some 111, some 112, some 113, some 114, some 115, some 116, some 117, some 118, some 119, some 120, some 121, some 122, some 123, some 124, some 125] [.quiet 0 0, .quiet 0 0, .quiet 0 0, .quiet 0 0, .quiet 0 0, .quiet 0 0, .quiet 0 0, .quiet 0 0, .quiet 0 0, .quiet 0 0, .quiet 0 0, .quiet 0 0, .quiet 0 0, .quiet 0 0, .quiet 0 0, .quiet 0 0, .quiet 0 0, .quiet 0 0, .quiet 0 0, .quiet 0 0, .quiet 0 0, .quiet 0 0, .quiet 0 0, .quiet 0 0, .quiet 0 0, .quiet 0 0, .quiet 0 0, .quiet 0 0, .quiet 0 0, .quiet 0 0] (fun _ _ wx => wx = w.drew) [_, _, _, _, _, _, (fun _ => undef), (fun _ => undef), (fun _ => undef), (fun _ => undef), (fun _ => undef), (fun _ => undef), (fun _ => undef), (fun _ => undef), (fun _ => undef), (fun _ => undef), (fun _ => undef), (fun _ => undef), (fun _ => undef), (fun _ => undef), _, _, _, _, _, _, _, _, _, _] HF
    case hm => kernel_rfl
    case hok => kernel_rfl
    case hfl => rfl
    case h0 => exact (fun _ => rfl)
    case hobs =>
      apply And.intro
      · apply ob_quiet
        case hg => rfl
        case hop =>
          intro ax wx h k hlo hhi hP hk K hK
          have e17 := hk.see 17 rfl rfl
          clear hk
          go_wp2_with fail
          all_goals first | exact hP | rfl
        case hst => exact fun h h' e => rfl
      apply And.intro
      · apply ob_quiet
        case hg => rfl
        case hop =>
          intro ax wx h k hlo hhi hP hk K hK
          have e11 := hk.see 11 rfl rfl
          clear hk
          go_wp2_with fail
          all_goals first | exact hP | rfl
        case hst => exact fun h h' e => rfl
      apply And.intro
      · apply ob_quiet
        case hg => rfl
        case hop =>
          intro ax wx h k hlo hhi hP hk K hK
          have e96 := hk.see 96 rfl rfl
          have e97 := hk.see 97 rfl rfl
          clear hk
          obtain rfl : wx = w.drew := hP
          go_wp2_with fail
          all_goals first | exact hP | rfl
        case hst => exact fun h h' e => rfl
      apply And.intro
      · apply ob_quiet
        case hg => rfl
        case hop =>
          intro ax wx h k hlo hhi hP hk K hK
          have e98 := hk.see 98 rfl rfl
          clear hk
          go_wp2_with fail
          all_goals first | exact hP | rfl
        case hst => exact fun h h' e => rfl
      apply And.intro
      · apply ob_want
        case hg => rfl
        case hj => rfl
        case hv => exact fun _ => rfl
        case hop =>
          intro ax wx h k hlo hhi hP hk K hK
          have e11 := hk.see 11 rfl rfl
          clear hk
          go_wp2_with fail
          all_goals first | exact hP | rfl
        case hst => exact fun h h' e => rfl
      apply And.intro
      · apply ob_want
        case hg => rfl
        case hj => rfl
        case hv => exact fun _ => rfl
        case hop =>
          intro ax wx h k hlo hhi hP hk K hK
          have e100 := hk.see 100 rfl rfl
          clear hk
          go_wp2_with fail
          all_goals first | exact hP | rfl
        case hst => exact fun h h' e => rfl
      refine And.intro (ob_skip rfl rfl (fun _ => rfl)) ?_
      refine And.intro (ob_skip rfl rfl (fun _ => rfl)) ?_
      refine And.intro (ob_skip rfl rfl (fun _ => rfl)) ?_
      refine And.intro (ob_skip rfl rfl (fun _ => rfl)) ?_
      refine And.intro (ob_skip rfl rfl (fun _ => rfl)) ?_
      refine And.intro (ob_skip rfl rfl (fun _ => rfl)) ?_
      refine And.intro (ob_skip rfl rfl (fun _ => rfl)) ?_
      refine And.intro (ob_skip rfl rfl (fun _ => rfl)) ?_
      refine And.intro (ob_skip rfl rfl (fun _ => rfl)) ?_
      refine And.intro (ob_skip rfl rfl (fun _ => rfl)) ?_
      refine And.intro (ob_skip rfl rfl (fun _ => rfl)) ?_
      refine And.intro (ob_skip rfl rfl (fun _ => rfl)) ?_
      refine And.intro (ob_skip rfl rfl (fun _ => rfl)) ?_
      refine And.intro (ob_skip rfl rfl (fun _ => rfl)) ?_
      apply And.intro
      · apply ob_want
        case hg => rfl
        case hj => rfl
        case hv => exact fun _ => rfl
        case hop =>
          intro ax wx h k hlo hhi hP hk K hK
          have e101 := hk.see 101 rfl rfl
          have e115 := hk.see 115 rfl rfl
          clear hk
          obtain rfl : wx = w.drew := hP
          go_wp2_with fail
          all_goals first | exact hP | rfl
        case hst => exact fun h h' e => rfl
      apply And.intro
      · apply ob_quiet
        case hg => rfl
        case hop =>
          intro ax wx h k hlo hhi hP hk K hK
          have e99 := hk.see 99 rfl rfl
          have e116 := hk.see 116 rfl rfl
          clear hk
          obtain rfl : wx = w.drew := hP
          go_wp2_with fail
          all_goals first | exact hP | rfl
        case hst => exact fun h h' e => rfl
      apply And.intro
      · apply ob_quiet
        case hg => rfl
        case hop =>
          intro ax wx h k hlo hhi hP hk K hK
          have e117 := hk.see 117 rfl rfl
          clear hk
          go_wp2_with fail
          all_goals first | exact hP | rfl
        case hst => exact fun h h' e => rfl
      apply And.intro
      · apply ob_want
        case hg => rfl
        case hj => rfl
        case hv => exact fun _ => rfl
        case hop =>
          intro ax wx h k hlo hhi hP hk K hK
          have e11 := hk.see 11 rfl rfl
          clear hk
          go_wp2_with fail
          all_goals first | exact hP | rfl
        case hst => exact fun h h' e => rfl
      apply And.intro
      · apply ob_want
        case hg => rfl
        case hj => rfl
        case hv => exact fun _ => rfl
        case hop =>
          intro ax wx h k hlo hhi hP hk K hK
          have e119 := hk.see 119 rfl rfl
          clear hk
          obtain rfl : wx = w.drew := hP
          go_wp2_with fail
          all_goals first | exact hP | rfl
        case hst => exact fun h h' e => rfl
      apply And.intro
      · apply ob_want
        case hg => rfl
        case hj => rfl
        case hv => exact fun _ => rfl
        case hop =>
          intro ax wx h k hlo hhi hP hk K hK
          have e120 := hk.see 120 rfl rfl
          clear hk
          go_wp2_with fail
          all_goals first | exact hP | rfl
        case hst => exact fun h h' e => rfl
      apply And.intro
      · apply ob_want
        case hg => rfl
        case hj => rfl
        case hv => exact fun _ => rfl
        case hop =>
          intro ax wx h k hlo hhi hP hk K hK
          have e16 := hk.see 16 rfl rfl
          clear hk
          go_wp2_with fail
          all_goals first | exact hP | rfl
        case hst => exact fun h h' e => rfl
      apply And.intro
      · apply ob_want
        case hg => rfl
        case hj => rfl
        case hv => exact fun _ => rfl
        case hop =>
          intro ax wx h k hlo hhi hP hk K hK
          have e122 := hk.see 122 rfl rfl
          clear hk
          obtain rfl : wx = w.drew := hP
          go_wp2_with fail
          all_goals first | exact hP | rfl
        case hst => exact fun h h' e => rfl
      apply And.intro
      · apply ob_want
        case hg => rfl
        case hj => rfl
        case hv => exact fun _ => rfl
        case hop =>
          intro ax wx h k hlo hhi hP hk K hK
          have e121 := hk.see 121 rfl rfl
          have e123 := hk.see 123 rfl rfl
          clear hk
          obtain rfl : wx = w.drew := hP
          go_wp2_with fail
          all_goals first | exact hP | rfl
        case hst => exact fun h h' e => rfl
      apply And.intro
      · apply ob_quiet
        case hg => rfl
        case hop =>
          intro ax wx h k hlo hhi hP hk K hK
          have e118 := hk.see 118 rfl rfl
          have e124 := hk.see 124 rfl rfl
          clear hk
          obtain rfl : wx = w.drew := hP
          go_wp2_with fail
          all_goals first | exact hP | rfl
        case hst => exact fun h h' e => rfl
      exact trivial
    intro w1 a' h hP HF
    obtain rfl : w1 = w.drew := hP
    refine sl_then (wp_cond_false (HF.at 125 rfl) (wp_skip ?_))
    exact HQ.out _ _ _ (HF.keep [0, 3, 4, 5, 6]) ⟨d, (HST.out.ok.keep ((Mod.refl Nil w).drew)).up⟩
  · obtain ⟨j', rfl⟩ : ∃ j', oo = some j' := by
      cases oo with
      | none => simp [outVar] at hov
      | some j' => exact ⟨j', rfl⟩
    have hjj : j' = j ∧ 0 ≤ dd.i ∧ dd.i < (varsOf d.ss j').length := by
      simp only [outVar] at hov
      split at hov
      · rename_i hc
        injection hov with hov
        exact ⟨hov, hc⟩
      · cases hov
    obtain ⟨rfl, hI0, hI1⟩ := hjj
    rw [hov, Option.isSome_some] at HF
    rw [hov] at HAT
    obtain ⟨ix, hix⟩ : ∃ ix : Nat, dd.i = ix := ⟨dd.i.toNat, by omega⟩
    obtain ⟨s, hs⟩ : ∃ s, d.ss[j']? = some s := by
      unfold varsOf at hI1
      rcases hs : d.ss[j']? with _ | s
      · rw [hs] at hI1; simp at hI1; omega
      · exact ⟨s, rfl⟩
    have hvs : varsOf d.ss j' = s.vars := by unfold varsOf; rw [hs]; rfl
    have hjl := (List.getElem?_eq_some_iff.1 hs).1
    dsimp only at HAT
    rw [hvs] at hI1 HAT
    have hok := HST.out.ok
    have hrw := hok.st.rw (by decide)
    rw [hok.sd] at hrw
    obtain ⟨b, hbj, h1, _⟩ := zip_at hrw.len hs
    obtain ⟨gb, cap, hv, hgb, hgl⟩ := hrw.scs.form (by omega)
    have hc0 := hrw.blk.cell 0
    rw [hv] at hc0
    have hcell := hrw.scs.cells (g := gb) (by rw [hv]; rfl) (j' * 2) _ h1
    rw [Addr.add_lit, Nat.zero_add] at hcell
    have hcv := (hrw.vars j' s b hs hbj).1.cell ix
    have hil : ix < s.vars.length := by omega
    have hcv2 : w.cell? ⟨b, ix, none⟩ = some (.int .u64 (s.vars.getD ix 0)) := by
      rw [hcv]
      simp [wv, List.getD, hil]
    rw [hix] at HAT hc3
    obtain ⟨x, hx⟩ : ∃ x, x = s.vars.getD ix 0 := ⟨_, rfl⟩
    rw [← hx] at hcv2
    simp only [Int.toNat_natCast, ← hx] at HAT
    have HC0 := Lib.hid hc0
    have HCS := Lib.hid hcell
    have HCV := Lib.hid hcv2
    have hu : upI (some j') = (j' : Int) := rfl
    clear hov hs hvs hok hrw hbj h1 hv hgb hgl hc0 hcell hcv hcv2 hix hI0 hx
    refine sl_move HF rfl rfl (.inl rfl) (by decide) rfl ?_; clear HF; intro _ HF
    refine sl_op HF rfl rfl (by decide) ?_; intro K hK; have e7 := HF.see 7 rfl; go_wp2_with fail; clear e7 HF; intro _ HF
    refine sl_op HF rfl rfl (by decide) ?_; intro K hK; have e89 := HF.see 89 rfl; go_wp2_with fail; clear e89 HF; intro _ HF
    refine sl_op HF rfl rfl (by decide) ?_; intro K hK; have e7 := HF.see 7 rfl; go_wp2_with fail; clear e7 HF; intro _ HF
    refine sl_op HF rfl rfl (by decide) ?_; intro K hK; have e91 := HF.see 91 rfl; go_wp2_with fail; clear e91 HF; intro _ HF
    refine sl_op HF rfl rfl (by decide) ?_; intro K hK; have e88 := HF.see 88 rfl; have e90 := HF.see 90 rfl; have e92 := HF.see 92 rfl; go_wp2_with fail
    refine HAT.out.mono ?_
    rintro r w' ⟨hr, rfl⟩
    obtain rfl := hr
    go_wp2_with fail; clear e88 e90 e92 HF; intro _ HF
    refine sl_move HF rfl rfl (.inl rfl) (by decide) rfl ?_; clear HF; intro _ HF
    refine sl_op HF rfl rfl (by decide) ?_; intro K hK; have e87 := HF.see 87 rfl; go_wp2_with fail; clear e87 HF; intro _ HF
    refine sl_op HF rfl rfl (by decide) ?_; intro K hK; have e87 := HF.see 87 rfl; go_wp2_with fail; clear e87 HF; intro _ HF
    refine sl_move HF rfl rfl (.inr rfl) (by decide) rfl ?_; clear HF; intro _ HF
    refine sl_move HF rfl rfl (.inr rfl) (by decide) rfl ?_; clear HF; intro _ HF
    refine sl_nil (wp_seq ?_)
    apply sl_flow5 (N := 0) [some 96, some 97, some 98, some 99, some 100, some 101, some 102, some 103, some 104, some 105, some 106, some 107, some 108, some 109, some 110, some 111, some 112, some 113, some 114, some 115, some 116, some 117, some 118, some 119, some 120, some 121, some 122, some 123, some 124, some 125] [.quiet 0 0, .quiet 0 0, .quiet 0 0, .quiet 0 0, .quiet 0 0, .quiet 0 0, .quiet 0 0, .quiet 0 0, .quiet 0 0, .quiet 0 0, .quiet 0 0, .quiet 0 0, .quiet 0 0, .quiet 0 0, .quiet 0 0, .quiet 0 0, .quiet 0 0, .quiet 0 0, .quiet 0 0, .quiet 0 0, .quiet 0 0, .quiet 0 0, .quiet 0 0, .quiet 0 0, .quiet 0 0, .quiet 0 0, .quiet 0 0, .quiet 0 0, .quiet 0 0, .quiet 0 0] (fun _ _ wx => wx = w.drew) [_, _, _, _, _, _, _, _, _, _, _, _, _, _, _, _, _, _, _, _, _, _, _, _, _, _, (fun _ => undef), (fun _ => undef), _, _] HF
    case hm => kernel_rfl
    case hok => kernel_rfl
    case hfl => rfl
    case h0 => exact (fun _ => rfl)
    case hobs =>
      apply And.intro
      · apply ob_quiet
        case hg => rfl
        case hop =>
          intro ax wx h k hlo hhi hP hk K hK
          have e17 := hk.see 17 rfl rfl
          clear hk
          go_wp2_with fail
          all_goals first | exact hP | rfl
        case hst => exact fun h h' e => rfl
      apply And.intro
      · apply ob_quiet
        case hg => rfl
        case hop =>
          intro ax wx h k hlo hhi hP hk K hK
          have e11 := hk.see 11 rfl rfl
          clear hk
          go_wp2_with fail
          all_goals first | exact hP | rfl
        case hst => exact fun h h' e => rfl
      apply And.intro
      · apply ob_quiet
        case hg => rfl
        case hop =>
          intro ax wx h k hlo hhi hP hk K hK
          have e96 := hk.see 96 rfl rfl
          have e97 := hk.see 97 rfl rfl
          clear hk
          obtain rfl : wx = w.drew := hP
          go_wp2_with fail
          all_goals first | exact hP | rfl
        case hst => exact fun h h' e => rfl
      apply And.intro
      · apply ob_quiet
        case hg => rfl
        case hop =>
          intro ax wx h k hlo hhi hP hk K hK
          have e98 := hk.see 98 rfl rfl
          clear hk
          go_wp2_with fail
          all_goals first | exact hP | rfl
        case hst => exact fun h h' e => rfl
      apply And.intro
      · apply ob_want
        case hg => rfl
        case hj => rfl
        case hv => exact fun _ => rfl
        case hop =>
          intro ax wx h k hlo hhi hP hk K hK
          have e11 := hk.see 11 rfl rfl
          clear hk
          go_wp2_with fail
          all_goals first | exact hP | rfl
        case hst => exact fun h h' e => rfl
      apply And.intro
      · apply ob_want
        case hg => rfl
        case hj => rfl
        case hv => exact fun _ => rfl
        case hop =>
          intro ax wx h k hlo hhi hP hk K hK
          have e100 := hk.see 100 rfl rfl
          clear hk
          go_wp2_with fail
          all_goals first | exact hP | rfl
        case hst => exact fun h h' e => rfl
      apply And.intro
      · apply ob_want
        case hg => rfl
        case hj => rfl
        case hv => exact fun _ => rfl
        case hop =>
          intro ax wx h k hlo hhi hP hk K hK
          have e16 := hk.see 16 rfl rfl
          clear hk
          go_wp2_with fail
          all_goals first | exact hP | rfl
        case hst => exact fun h h' e => rfl
      apply And.intro
      · apply ob_want
        case hg => rfl
        case hj => rfl
        case hv => exact fun _ => rfl
        case hop =>
          intro ax wx h k hlo hhi hP hk K hK
          have e4 := hk.see 4 rfl rfl
          clear hk
          go_wp2_with fail
          all_goals first | exact hP | rfl
        case hst => exact fun h h' e => rfl
      apply And.intro
      · apply ob_want
        case hg => rfl
        case hj => rfl
        case hv => exact fun _ => rfl
        case hop =>
          intro ax wx h k hlo hhi hP hk K hK
          have e103 := hk.see 103 rfl rfl
          clear hk
          obtain rfl : wx = w.drew := hP
          go_wp2_with fail
          all_goals first | exact hP | rfl
        case hst => exact fun h h' e => rfl
      apply And.intro
      · apply ob_want
        case hg => rfl
        case hj => rfl
        case hv => exact fun _ => rfl
        case hop =>
          intro ax wx h k hlo hhi hP hk K hK
          have e104 := hk.see 104 rfl rfl
          clear hk
          obtain rfl : wx = w.drew := hP
          go_wp2_with fail
          all_goals first | exact hP | rfl
        case hst => exact fun h h' e => rfl
      apply And.intro
      · apply ob_want
        case hg => rfl
        case hj => rfl
        case hv => exact fun _ => rfl
        case hop =>
          intro ax wx h k hlo hhi hP hk K hK
          have e105 := hk.see 105 rfl rfl
          clear hk
          obtain rfl : wx = w.drew := hP
          have hcx := HC0.out
          go_wp2_with fail
          all_goals first | exact hP | rfl
        case hst => exact fun h h' e => rfl
      apply And.intro
      · apply ob_want
        case hg => rfl
        case hj => rfl
        case hv => exact fun _ => rfl
        case hop =>
          intro ax wx h k hlo hhi hP hk K hK
          have e10 := hk.see 10 rfl rfl
          clear hk
          go_wp2_with fail
          all_goals first | exact hP | rfl
        case hst => exact fun h h' e => rfl
      apply And.intro
      · apply ob_want
        case hg => rfl
        case hj => rfl
        case hv => exact fun _ => rfl
        case hop =>
          intro ax wx h k hlo hhi hP hk K hK
          have e106 := hk.see 106 rfl rfl
          have e107 := hk.see 107 rfl rfl
          clear hk
          obtain rfl : wx = w.drew := hP
          go_wp2_with fail
          all_goals first | exact hP | rfl
        case hst => exact fun h h' e => rfl
      apply And.intro
      · apply ob_want
        case hg => rfl
        case hj => rfl
        case hv => exact fun _ => rfl
        case hop =>
          intro ax wx h k hlo hhi hP hk K hK
          have e108 := hk.see 108 rfl rfl
          clear hk
          obtain rfl : wx = w.drew := hP
          go_wp2_with fail
          all_goals first | exact hP | rfl
        case hst => exact fun h h' e => rfl
      apply And.intro
      · apply ob_want
        case hg => rfl
        case hj => rfl
        case hv => exact fun _ => rfl
        case hop =>
          intro ax wx h k hlo hhi hP hk K hK
          have e109 := hk.see 109 rfl rfl
          clear hk
          obtain rfl : wx = w.drew := hP
          have hcx := HCS.out
          go_wp2_with fail
          all_goals first | exact hP | rfl
        case hst => exact fun h h' e => rfl
      apply And.intro
      · apply ob_want
        case hg => rfl
        case hj => rfl
        case hv => exact fun _ => rfl
        case hop =>
          intro ax wx h k hlo hhi hP hk K hK
          have e7 := hk.see 7 rfl rfl
          clear hk
          obtain rfl : wx = w.drew := hP
          go_wp2_with fail
          all_goals first | exact hP | rfl
        case hst => exact fun h h' e => rfl
      apply And.intro
      · apply ob_want
        case hg => rfl
        case hj => rfl
        case hv => exact fun _ => rfl
        case hop =>
          intro ax wx h k hlo hhi hP hk K hK
          have e111 := hk.see 111 rfl rfl
          clear hk
          obtain rfl : wx = w.drew := hP
          go_wp2_with fail
          all_goals first | exact hP | rfl
        case hst => exact fun h h' e => rfl
      apply And.intro
      · apply ob_want
        case hg => rfl
        case hj => rfl
        case hv => exact fun _ => rfl
        case hop =>
          intro ax wx h k hlo hhi hP hk K hK
          have e110 := hk.see 110 rfl rfl
          have e112 := hk.see 112 rfl rfl
          clear hk
          obtain rfl : wx = w.drew := hP
          go_wp2_with fail
          all_goals first | exact hP | rfl
        case hst => exact fun h h' e => rfl
      apply And.intro
      · apply ob_want
        case hg => rfl
        case hj => rfl
        case hv => exact fun _ => rfl
        case hop =>
          intro ax wx h k hlo hhi hP hk K hK
          have e113 := hk.see 113 rfl rfl
          clear hk
          obtain rfl : wx = w.drew := hP
          have hcx := HCV.out
          go_wp2_with fail
          all_goals first | exact hP | rfl
        case hst => exact fun h h' e => rfl
      apply And.intro
      · apply ob_want
        case hg => rfl
        case hj => rfl
        case hv => exact fun _ => rfl
        case hop =>
          intro ax wx h k hlo hhi hP hk K hK
          have e102 := hk.see 102 rfl rfl
          have e114 := hk.see 114 rfl rfl
          clear hk
          obtain rfl : wx = w.drew := hP
          go_wp2_with fail
          all_goals first | exact hP | rfl
        case hst => exact fun h h' e => rfl
      apply And.intro
      · apply ob_want
        case hg => rfl
        case hj => rfl
        case hv => exact fun _ => rfl
        case hop =>
          intro ax wx h k hlo hhi hP hk K hK
          have e101 := hk.see 101 rfl rfl
          have e115 := hk.see 115 rfl rfl
          clear hk
          obtain rfl : wx = w.drew := hP
          go_wp2_with fail
          all_goals first | exact hP | rfl
        case hst => exact fun h h' e => rfl
      apply And.intro
      · apply ob_quiet
        case hg => rfl
        case hop =>
          intro ax wx h k hlo hhi hP hk K hK
          have e99 := hk.see 99 rfl rfl
          have e116 := hk.see 116 rfl rfl
          clear hk
          obtain rfl : wx = w.drew := hP
          go_wp2_with fail
          all_goals first | exact hP | rfl
        case hst => exact fun h h' e => rfl
      apply And.intro
      · apply ob_quiet
        case hg => rfl
        case hop =>
          intro ax wx h k hlo hhi hP hk K hK
          have e117 := hk.see 117 rfl rfl
          clear hk
          go_wp2_with fail
          all_goals first | exact hP | rfl
        case hst => exact fun h h' e => rfl
      apply And.intro
      · apply ob_want
        case hg => rfl
        case hj => rfl
        case hv => exact fun _ => rfl
        case hop =>
          intro ax wx h k hlo hhi hP hk K hK
          have e11 := hk.see 11 rfl rfl
          clear hk
          go_wp2_with fail
          all_goals first | exact hP | rfl
        case hst => exact fun h h' e => rfl
      apply And.intro
      · apply ob_want
        case hg => rfl
        case hj => rfl
        case hv => exact fun _ => rfl
        case hop =>
          intro ax wx h k hlo hhi hP hk K hK
          have e119 := hk.see 119 rfl rfl
          clear hk
          obtain rfl : wx = w.drew := hP
          go_wp2_with fail
          all_goals first | exact hP | rfl
        case hst => exact fun h h' e => rfl
      apply And.intro
      · apply ob_want
        case hg => rfl
        case hj => rfl
        case hv => exact fun _ => rfl
        case hop =>
          intro ax wx h k hlo hhi hP hk K hK
          have e120 := hk.see 120 rfl rfl
          clear hk
          go_wp2_with fail
          all_goals first | exact hP | rfl
        case hst => exact fun h h' e => rfl
      refine And.intro (ob_skip rfl rfl (fun _ => rfl)) ?_
      refine And.intro (ob_skip rfl rfl (fun _ => rfl)) ?_
      apply And.intro
      · apply ob_want
        case hg => rfl
        case hj => rfl
        case hv => exact fun _ => rfl
        case hop =>
          intro ax wx h k hlo hhi hP hk K hK
          have e121 := hk.see 121 rfl rfl
          have e123 := hk.see 123 rfl rfl
          clear hk
          obtain rfl : wx = w.drew := hP
          go_wp2_with fail
          all_goals first | exact hP | rfl
        case hst => exact fun h h' e => rfl
      apply And.intro
      · apply ob_quiet
        case hg => rfl
        case hop =>
          intro ax wx h k hlo hhi hP hk K hK
          have e118 := hk.see 118 rfl rfl
          have e124 := hk.see 124 rfl rfl
          clear hk
          obtain rfl : wx = w.drew := hP
          go_wp2_with fail
          all_goals first | exact hP | rfl
        case hst => exact fun h h' e => rfl
      exact trivial
    intro w1 a' h hP HF
    obtain rfl : w1 = w.drew := hP
    refine sl_then (wp_cond_false (HF.at 125 rfl) (wp_skip ?_))
    exact HQ.out _ _ _ (HF.keep [0, 3, 4, 5, 6]) ⟨d, (HST.out.ok.keep ((Mod.refl Nil w).drew)).up⟩
end Go.Proofs.Ytpjpmlhnhcmacaa
