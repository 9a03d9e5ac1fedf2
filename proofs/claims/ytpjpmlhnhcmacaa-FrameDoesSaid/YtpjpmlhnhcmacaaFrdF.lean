/- The law FrameDoes: the arms of the switch, second part: Set, NewScope. -/
import Derived.Test.YtpjpmlhnhcmacaaFrdD
import Derived.Test.YtpjpmlhnhcmacaaOps
namespace Go.Proofs.Ytpjpmlhnhcmacaa
open Go.RowKit

theorem setVar_few {ss : List Scp} (h : ∀ s ∈ ss, s.vars.length ≤ 300) (j i : Nat) (x : Int) : ∀ s ∈ setVar ss j i x, s.vars.length ≤ 300 := by
  intro s hs
  obtain ⟨k, hk⟩ := List.getElem?_of_mem hs
  rw [setVar_at] at hk
  split at hk
  · obtain ⟨s', hs', rfl⟩ := Option.map_eq_some_iff.1 hk
    simpa using h s' (List.mem_of_getElem? hs')
  · exact h s (List.mem_of_getElem? hk)

theorem outVar_some {ss : List Scp} {oo : Option Nat} {i : Int} {j : Nat} (hov : outVar ss oo i = some j) : oo = some j ∧ ∃ (s : Scp) (ix : Nat), ss[j]? = some s ∧ i = ix ∧ ix < s.vars.length := by
  cases oo with
  | none => simp [outVar] at hov
  | some j' =>
    simp only [outVar] at hov
    split at hov
    · rename_i hc
      injection hov with hov
      subst hov
      refine ⟨rfl, ?_⟩
      rcases hs : ss[j']? with _ | s
      · have : varsOf ss j' = [] := by unfold varsOf; rw [hs]; rfl
        rw [this] at hc
        simp at hc
        omega
      · have : varsOf ss j' = s.vars := by unfold varsOf; rw [hs]; rfl
        rw [this] at hc
        exact ⟨s, i.toNat, rfl, by omega, by omega⟩
    · cases hov

set_option maxHeartbeats 3200000 in
set_option maxRecDepth 100000 in
theorem frdo_arm1 {Q : Exit → Act → World → Prop} {a : Act} {w w0 : World} {g gm k bd cB : Nat} {d : FD} {dd : Deed} {B : Option Addr} {kk oo : Option Nat} {v0 v6 v8 : Value} (hoo : oo = outI d.ss kk dd.n)
    (HF : Sl 344 [(0, v0), (3, .pointer (some ⟨g, 0, none⟩)), (4, .pointer (some ⟨gm, 0, none⟩)), (5, d.sv), (6, v6), (7, .pointer (some ⟨bd, 0, none⟩)), (8, v8), (9, upV (d.bs.map (·.1)) kk), (10, .int .i64 (upI oo)), (11, .bool (outVar d.ss oo dd.i).isSome)] a)
    (hst : ArmSt w0 w g gm k d bd dd B cB kk)
    (hQ : ∀ a' w' sv', Sl 344 [(0, v0), (3, .pointer (some ⟨g, 0, none⟩)), (4, .pointer (some ⟨gm, 0, none⟩)), (5, sv'), (6, v6)] a' → DoSt w0 g gm (k + 1) sv' w' → Q .normal a' w') :
    (part [1, 1, 1, 1, 1, 0, 1, 0, 0, 1, 0, 0, 1, 1, 1, 1, 1, 1, 0, 1, 0, 1, 1, 1, 0] doBody).wp Try.prog Q a w := by
  obtain rfl := hst.ok.g
  obtain rfl := hst.ok.gm
  have HST := Lib.hid hst
  have HQ := Lib.hid hQ
  have hse := fs_set hst.ok.st kk dd.n dd.i dd.x (fun j hj => hst.kk j hj) hst.nhi (fun s hs => by have := hst.ok.f3 s hs; omega)
  rw [← hoo] at hse
  have HSE := Lib.hid hse
  obtain ⟨u9, hu9⟩ : ∃ u, u = upV (d.bs.map (·.1)) kk := ⟨_, rfl⟩
  rw [← hu9] at HSE HF
  have hc1 := hst.blk.cell 1
  have hc3 := hst.blk.cell 3
  have hc4 := hst.blk.cell 4
  clear hst hQ hse hoo hu9
  conv => arg 2; whnf
  rcases hov : outVar d.ss oo dd.i with _ | j
  · rw [hov] at HF HSE
    rw [Option.isSome_none] at HF
    clear hov
    refine wp_seq (wp_seq (wp_region_lit ?_))
    refine sl_move HF rfl rfl (.inl rfl) (by decide) rfl ?_; clear HF; intro _ HF
    refine sl_op HF rfl rfl (by decide) ?_; intro K hK; have e7 := HF.see 7 rfl; go_wp2_with fail; clear e7 HF; intro _ HF
    refine sl_op HF rfl rfl (by decide) ?_; intro K hK; have e153 := HF.see 153 rfl; go_wp2_with fail; clear e153 HF; intro _ HF
    refine sl_op HF rfl rfl (by decide) ?_; intro K hK; have e7 := HF.see 7 rfl; go_wp2_with fail; clear e7 HF; intro _ HF
    refine sl_op HF rfl rfl (by decide) ?_; intro K hK; have e155 := HF.see 155 rfl; go_wp2_with fail; clear e155 HF; intro _ HF
    refine sl_op HF rfl rfl (by decide) ?_; intro K hK; have e7 := HF.see 7 rfl; go_wp2_with fail; clear e7 HF; intro _ HF
    refine sl_op HF rfl rfl (by decide) ?_; intro K hK; have e157 := HF.see 157 rfl; go_wp2_with fail; clear e157 HF; intro _ HF
    refine sl_op HF rfl rfl (by decide) ?_; intro K hK; have e152 := HF.see 152 rfl; have e154 := HF.see 154 rfl; have e156 := HF.see 156 rfl; have e158 := HF.see 158 rfl; go_wp2_with fail
    refine HSE.out.mono ?_
    rintro r w1 ⟨rfl, col, h1, h2⟩
    have H1 := Lib.hid h1
    have H2 := Lib.hid h2
    rw [Option.isSome_none]
    clear h1 h2
    go_wp2_with fail; clear e152 e154 e156 e158 HF; intro _ HF
    refine sl_move HF rfl rfl (.inl rfl) (by decide) rfl ?_; clear HF; intro _ HF
    refine sl_op HF rfl rfl (by decide) ?_; intro K hK; have e159 := HF.see 159 rfl; have e160 := HF.see 160 rfl; go_wp2_with fail; clear e159 e160 HF; intro _ HF
    refine sl_nil (wp_cond_false (HF.at 161 rfl) (wp_skip (sl_then ?_)))
    refine wp_seq (wp_region_lit ?_)
    refine sl_move HF rfl rfl (.inl rfl) (by decide) rfl ?_; clear HF; intro _ HF
    refine sl_nil (wp_cond_false (HF.at 162 rfl) (wp_skip ?_))
    have hok := HST.out.ok.up
    exact HQ.out _ _ _ (HF.keep [0, 3, 4, 5, 6]) ⟨_, H1.out, rfl, rfl, rfl, hok.sd, hok.fl, hok.cs, hok.lst, hok.l0, hok.l1, hok.f1, hok.f2, hok.f3, hok.f4⟩
  · obtain ⟨rfl, s, ix, hs, hix, hil⟩ := outVar_some hov
    rw [hov] at HF HSE
    rw [Option.isSome_some] at HF
    rw [hix] at hc3 HSE
    simp only [Int.toNat_natCast] at HSE
    clear hov
    refine wp_seq (wp_seq (wp_region_lit ?_))
    refine sl_move HF rfl rfl (.inl rfl) (by decide) rfl ?_; clear HF; intro _ HF
    refine sl_op HF rfl rfl (by decide) ?_; intro K hK; have e7 := HF.see 7 rfl; go_wp2_with fail; clear e7 HF; intro _ HF
    refine sl_op HF rfl rfl (by decide) ?_; intro K hK; have e153 := HF.see 153 rfl; go_wp2_with fail; clear e153 HF; intro _ HF
    refine sl_op HF rfl rfl (by decide) ?_; intro K hK; have e7 := HF.see 7 rfl; go_wp2_with fail; clear e7 HF; intro _ HF
    refine sl_op HF rfl rfl (by decide) ?_; intro K hK; have e155 := HF.see 155 rfl; go_wp2_with fail; clear e155 HF; intro _ HF
    refine sl_op HF rfl rfl (by decide) ?_; intro K hK; have e7 := HF.see 7 rfl; go_wp2_with fail; clear e7 HF; intro _ HF
    refine sl_op HF rfl rfl (by decide) ?_; intro K hK; have e157 := HF.see 157 rfl; go_wp2_with fail; clear e157 HF; intro _ HF
    refine sl_op HF rfl rfl (by decide) ?_; intro K hK; have e152 := HF.see 152 rfl; have e154 := HF.see 154 rfl; have e156 := HF.see 156 rfl; have e158 := HF.see 158 rfl; go_wp2_with fail
    refine HSE.out.mono ?_
    rintro r w1 ⟨rfl, col, h1, h2⟩
    have H1 := Lib.hid h1
    have hb1 := (h2 bd _ _ HST.out.blk HST.out.col).1
    rw [Option.isSome_some]
    -- the document's scope
    have hok := HST.out.ok
    have hrw := h1.rw (by decide)
    simp only at hrw
    have hs' : d.sd[j]? = some s := by rw [hok.sd]; exact hs
    obtain ⟨b, hbj, e1, _⟩ := zip_at hrw.len hs'
    have hjl : j < d.sd.length := (List.getElem?_eq_some_iff.1 hs').1
    obtain ⟨gb, cap, hv, hgb, hgl⟩ := hrw.scs.form (by omega)
    have k0 := hrw.blk.cell 0
    rw [hv] at k0
    have kS := hrw.scs.cells (g := gb) (by rw [hv]; rfl) (j * 2) _ e1
    rw [Addr.add_lit, Nat.zero_add] at kS
    have hbv := (hrw.vars j s b hs' hbj).1
    have kf := hbv.frozen ix
    have kl := hbv.lt
    have kc := hbv.cell ix
    have kc2 : ∃ u, w1.cell? ⟨b, ix, none⟩ = some u := by
      rw [kc]
      exact ⟨(s.vars.map wv).toArray[ix]'(by simpa using hil), by simp [hil]⟩
    obtain ⟨u, kc2⟩ := kc2
    have k3 := hb1.cell 3
    have k4 := hb1.cell 4
    rw [hix] at k3
    have K0 := Lib.hid k0
    have KS := Lib.hid kS
    have K3 := Lib.hid k3
    have K4 := Lib.hid k4
    have HBJ := Lib.hid hbj
    have hu : upI (some j) = (j : Int) := rfl
    clear h1 h2 hb1 hok hrw hs' e1 hv hgb hgl k0 kS hbv kc k3 k4 hbj
    go_wp2_with fail; clear e152 e154 e156 e158 HF; intro _ HF
    refine sl_move HF rfl rfl (.inl rfl) (by decide) rfl ?_; clear HF; intro _ HF
    refine sl_op HF rfl rfl (by decide) ?_; intro K hK; have e159 := HF.see 159 rfl; have e160 := HF.see 160 rfl; go_wp2_with fail; clear e159 e160 HF; intro _ HF
    refine sl_nil (wp_cond_false (HF.at 161 rfl) (wp_skip (sl_then ?_)))
    refine wp_seq (wp_region_lit ?_)
    refine sl_move HF rfl rfl (.inl rfl) (by decide) rfl ?_; clear HF; intro _ HF
    refine sl_nil (wp_cond_true (HF.at 162 rfl) ?_)
    apply sl_flow5 (N := 1) [some 163, some 164, some 165, some 166, some 167, some 168, some 169, some 170, some 171, some 172, some 173, some 174, some 175, none] [.quiet 0 0, .quiet 0 0, .quiet 0 0, .quiet 0 0, .quiet 0 0, .quiet 0 0, .quiet 0 0, .quiet 0 0, .quiet 0 0, .quiet 0 0, .quiet 0 0, .quiet 0 0, .quiet 0 0, .writes 0] (PhSt w1.drew (w1.setCell ⟨b, ix, none⟩ (.int .u64 dd.x)).drew) [_, _, _, _, _, _, _, _, _, _, _, _, _, (fun h => h 0)] HF
    case hm => kernel_rfl
    case hok => kernel_rfl
    case hfl => rfl
    case h0 => exact (PhSt.init _ _)
    case hobs =>
      apply And.intro
      · apply ob_quiet
        case hg => rfl
        case hop =>
          intro ax wx h k hlo hhi hP hk K hK
          have e4 := hk.see 4 rfl rfl
          clear hk
          go_wp2_with fail
          all_goals first | exact hP | rfl
        case hst => exact fun h h' e => rfl
      apply And.intro
      · apply ob_quiet
        case hg => rfl
        case hop =>
          intro ax wx h k hlo hhi hP hk K hK
          have e163 := hk.see 163 rfl rfl
          clear hk
          obtain rfl : wx = w1.drew := hP.s0 (by omega)
          go_wp2_with fail
          all_goals first | exact hP | rfl
        case hst => exact fun h h' e => rfl
      apply And.intro
      · apply ob_quiet
        case hg => rfl
        case hop =>
          intro ax wx h k hlo hhi hP hk K hK
          have e164 := hk.see 164 rfl rfl
          clear hk
          obtain rfl : wx = w1.drew := hP.s0 (by omega)
          go_wp2_with fail
          all_goals first | exact hP | rfl
        case hst => exact fun h h' e => rfl
      apply And.intro
      · apply ob_quiet
        case hg => rfl
        case hop =>
          intro ax wx h k hlo hhi hP hk K hK
          have e165 := hk.see 165 rfl rfl
          clear hk
          obtain rfl : wx = w1.drew := hP.s0 (by omega)
          have kx := K0.out
          go_wp2_with fail
          all_goals first | exact hP | rfl
        case hst => exact fun h h' e => rfl
      apply And.intro
      · apply ob_quiet
        case hg => rfl
        case hop =>
          intro ax wx h k hlo hhi hP hk K hK
          have e10 := hk.see 10 rfl rfl
          clear hk
          go_wp2_with fail
          all_goals first | exact hP | rfl
        case hst => exact fun h h' e => rfl
      apply And.intro
      · apply ob_quiet
        case hg => rfl
        case hop =>
          intro ax wx h k hlo hhi hP hk K hK
          have e166 := hk.see 166 rfl rfl
          have e167 := hk.see 167 rfl rfl
          clear hk
          obtain rfl : wx = w1.drew := hP.s0 (by omega)
          go_wp2_with fail
          all_goals first | exact hP | rfl
        case hst => exact fun h h' e => rfl
      apply And.intro
      · apply ob_quiet
        case hg => rfl
        case hop =>
          intro ax wx h k hlo hhi hP hk K hK
          have e168 := hk.see 168 rfl rfl
          clear hk
          obtain rfl : wx = w1.drew := hP.s0 (by omega)
          go_wp2_with fail
          all_goals first | exact hP | rfl
        case hst => exact fun h h' e => rfl
      apply And.intro
      · apply ob_quiet
        case hg => rfl
        case hop =>
          intro ax wx h k hlo hhi hP hk K hK
          have e169 := hk.see 169 rfl rfl
          clear hk
          obtain rfl : wx = w1.drew := hP.s0 (by omega)
          have kx := KS.out
          go_wp2_with fail
          all_goals first | exact hP | rfl
        case hst => exact fun h h' e => rfl
      apply And.intro
      · apply ob_quiet
        case hg => rfl
        case hop =>
          intro ax wx h k hlo hhi hP hk K hK
          have e7 := hk.see 7 rfl rfl
          clear hk
          obtain rfl : wx = w1.drew := hP.s0 (by omega)
          go_wp2_with fail
          all_goals first | exact hP | rfl
        case hst => exact fun h h' e => rfl
      apply And.intro
      · apply ob_quiet
        case hg => rfl
        case hop =>
          intro ax wx h k hlo hhi hP hk K hK
          have e171 := hk.see 171 rfl rfl
          clear hk
          obtain rfl : wx = w1.drew := hP.s0 (by omega)
          have kx := K3.out
          go_wp2_with fail
          all_goals first | exact hP | rfl
        case hst => exact fun h h' e => rfl
      apply And.intro
      · apply ob_quiet
        case hg => rfl
        case hop =>
          intro ax wx h k hlo hhi hP hk K hK
          have e7 := hk.see 7 rfl rfl
          clear hk
          obtain rfl : wx = w1.drew := hP.s0 (by omega)
          go_wp2_with fail
          all_goals first | exact hP | rfl
        case hst => exact fun h h' e => rfl
      apply And.intro
      · apply ob_quiet
        case hg => rfl
        case hop =>
          intro ax wx h k hlo hhi hP hk K hK
          have e173 := hk.see 173 rfl rfl
          clear hk
          obtain rfl : wx = w1.drew := hP.s0 (by omega)
          have kx := K4.out
          go_wp2_with fail
          all_goals first | exact hP | rfl
        case hst => exact fun h h' e => rfl
      apply And.intro
      · apply ob_quiet
        case hg => rfl
        case hop =>
          intro ax wx h k hlo hhi hP hk K hK
          have e170 := hk.see 170 rfl rfl
          have e172 := hk.see 172 rfl rfl
          clear hk
          obtain rfl : wx = w1.drew := hP.s0 (by omega)
          go_wp2_with fail
          all_goals first | exact hP | rfl
        case hst => exact fun h h' e => rfl
      refine And.intro (ob_writes rfl ?op) ?_
      case op =>
        intro ax wx h hP hk K hK
        have e175 := hk.see 175 rfl rfl
        have e174 := hk.see 174 rfl rfl
        clear hk
        obtain rfl : wx = w1.drew := hP.s0 rfl
        clear hP
        go_wp2_with fail
        exact hK undef _ (PhSt.done _ _ _)
      exact trivial
    intro w2 a2 h2 hP HF
    obtain rfl := hP.s1 rfl
    obtain ⟨q1, _⟩ := H1.out.rset (n := ix) HBJ.out dd.x
    have hok := HST.out.ok.up
    refine HQ.out _ _ _ (HF.keep [0, 3, 4, 5, 6]) (DoSt.keep ⟨_, q1, rfl, rfl, rfl, ?_, hok.fl, hok.cs, hok.lst, hok.l0, hok.l1, hok.f1, ?_, ?_, hok.f4⟩ ((Mod.refl Nil _).drew))
    · simp only [hok.sd]
    · simp only [setVar_length]
      exact hok.f2
    · exact setVar_few hok.f3 _ _ _

theorem psc_info : (Try.prog.info? 38).map (fun i => (i.zero, i.size, i.bytes)) = some (some (.pointer none), 1, 8) := by kernel_rfl
theorem rsc_info : (Try.prog.info? 41).map (fun i => (i.zero, i.size, i.bytes)) = some (some (.agg #[.slice none 0 0, .int .i64 0]), 2, 32) := by kernel_rfl

/-- The document's new scope is made and appended. -/
structure PhSc (W : World) (gm B0 m n : Nat) (vs : Value) (xs : List Value) (C1 C2 : Array Value) (Fin : World → Prop) (k : Nat) (h : Hist) (w : World) : Prop where
  c0 : k ≤ 2 → w.cell? ⟨gm, 0, none⟩ = some vs
  s0 : k = 0 → w = W
  s1 : k = 1 → w = W.alloc (.cells C1 34)
  s2 : k = 2 → w = (W.alloc (.cells C1 34)).alloc (.cells C2 41)
  s3 : k = 3 → ∃ A' c', h 2 = .slice A' (m + 1) c' ∧ w.ownsRow B0 41 2 (.slice A' (m + 1) c') (m + 1) (xs ++ C2.toList) ∧ Mod (fun k => vs.ownBlock = some k) ((W.alloc (.cells C1 34)).alloc (.cells C2 41)) w ∧ (∀ k, (Value.slice A' (m + 1) c').ownBlock = some k → vs.ownBlock = some k ∨ ((W.alloc (.cells C1 34)).alloc (.cells C2 41)).heap.size ≤ k)
  s4 : k = 4 → Fin w
  h0 : 0 < k → h 0 = .slice (some ⟨W.heap.size, 0, none⟩) n n
  h1 : 1 < k → h 1 = .slice (some ⟨W.heap.size + 1, 0, none⟩) 1 1

set_option maxHeartbeats 3200000 in
set_option maxRecDepth 100000 in
theorem frdo_arm0 {Q : Exit → Act → World → Prop} {a : Act} {w w0 : World} {g gm k bd cB : Nat} {d : FD} {dd : Deed} {B : Option Addr} {kk : Option Nat} {v0 v6 v10 v11 : Value} (hkind : dd.kind = 0)
    (HF : Sl 344 [(0, v0), (3, .pointer (some ⟨g, 0, none⟩)), (4, .pointer (some ⟨gm, 0, none⟩)), (5, d.sv), (6, v6), (7, .pointer (some ⟨bd, 0, none⟩)), (8, .int .i64 (upI kk)), (9, upV (d.bs.map (·.1)) kk), (10, v10), (11, v11)] a)
    (hst : ArmSt w0 w g gm k d bd dd B cB kk)
    (hQ : ∀ a' w' sv', Sl 344 [(0, v0), (3, .pointer (some ⟨g, 0, none⟩)), (4, .pointer (some ⟨gm, 0, none⟩)), (5, sv'), (6, v6)] a' → DoSt w0 g gm (k + 1) sv' w' → Q .normal a' w') :
    (part [1, 1, 1, 1, 1, 0, 1, 0, 0, 1, 0, 0, 1, 1, 1, 1, 1, 1, 0, 1, 0, 1, 0] doBody).wp Try.prog Q a w := by
  obtain rfl := hst.ok.g
  obtain rfl := hst.ok.gm
  obtain ⟨i0, hi, hz0, hz1, hz2⟩ := info_parts psc_info
  obtain ⟨j0, hj, hy0, hy1, hy2⟩ := info_parts rsc_info
  have HST := Lib.hid hst
  have HQ := Lib.hid hQ
  have hN := hst.n300 hkind
  have hns := fs_newScope hst.ok.st dd.n kk (by omega) hst.kk
  have HNS := Lib.hid hns
  obtain ⟨u9, hu9⟩ : ∃ u, u = upV (d.bs.map (·.1)) kk := ⟨_, rfl⟩
  rw [← hu9] at HNS HF
  have hc1 := hst.blk.cell 1
  -- the slice of scopes
  have hrow := hst.ok.st.row (by decide)
  obtain ⟨As, cs, hsv, _, _⟩ := own_slice hrow
  obtain ⟨ns, hns⟩ : ∃ ns, d.cs.length = ns := ⟨_, rfl⟩
  rw [hns] at hsv hrow
  have hns40 : ns ≤ 40 := by rw [← hns, hst.ok.cs, List.length_map, (hst.ok.st.sc (by decide)).len]; have := hst.ok.f2; have := hst.k40; omega
  rw [hsv] at HF
  have HSV := Lib.hid hsv
  have HN := Lib.hid hns
  clear hst hQ hu9 hsv hns hrow
  conv => arg 2; whnf
  refine wp_seq (wp_region_lit ?_)
  refine sl_move HF rfl rfl (.inl rfl) (by decide) rfl ?_; clear HF; intro _ HF
  refine sl_op HF rfl rfl (by decide) ?_; intro K hK; have e7 := HF.see 7 rfl; go_wp2_with fail; clear e7 HF; intro _ HF
  refine sl_op HF rfl rfl (by decide) ?_; intro K hK; have e129 := HF.see 129 rfl; go_wp2_with fail; clear e129 HF; intro _ HF
  refine sl_move HF rfl rfl (.inl rfl) (by decide) rfl ?_; clear HF; intro _ HF
  refine sl_op HF rfl rfl (by decide) ?_; intro K hK; have e130 := HF.see 130 rfl; have e131 := HF.see 131 rfl; go_wp2_with fail
  refine HNS.out.mono ?_
  rintro r w1 ⟨p, rfl, h1, h2⟩
  unfold scp
  have H1 := Lib.hid h1
  have H2 := Lib.hid h2
  have hB1 := h1.mod.size
  clear h1 h2
  go_wp2_with fail; clear e130 e131 HF; intro _ HF
  refine sl_op HF rfl rfl (by decide) ?_; intro K hK; have e132 := HF.see 132 rfl; go_wp2_with fail; clear e132 HF; intro _ HF
  refine sl_op HF rfl rfl (by decide) ?_; intro K hK; have e128 := HF.see 128 rfl; have e133 := HF.see 133 rfl
  refine op_append1 _ rfl 128 133 32 rfl w0.heap.size 38 i0 (.pointer none) 1 8 Try.underlying32 hi hz0 hz1 hz2 rfl (by decide) (.slice As ns cs) ns (d.cs.map scp) e128 ?_ w1.heap.size 38 #[scp p.1] 1 e133 (Blk.new _ _ _) rfl (by intro u hu; simp at hu; subst hu; rfl) (by omega) (by decide) (by simp; omega) ?_
  · have hr := H1.out.row (by decide)
    simp only at hr
    rw [HN.out, HSV.out] at hr
    exact own_keep hr ((Mod.refl Nil w1).alloc _) (fun _ _ => id)
  intro A5 c5 w2 hown hmod hat
  have hr2 := H1.out.row_app (n := ns) (b := p.1) (by simp only; exact HN.out) ((Mod.refl Nil w1).alloc (.cells #[scp p.1] 38)) (by simpa using hown) (by simp only [HSV.out]; exact hmod) (by simp only [HSV.out]; exact hat)
  obtain ⟨h3, h4⟩ := hr2
  have H3 := Lib.hid h3
  have H4 := Lib.hid h4
  clear h3 h4 hown hmod hat
  refine hK _ _ ?_
  clear hK K e128 e133 HF
  intro _ HF
  refine sl_move HF rfl rfl (.inr rfl) (by decide) rfl ?_; clear HF; intro _ HF
  refine sl_nil ?_
  have hb2 := (H4.out bd _ _ (H2.out bd _ _ HST.out.blk HST.out.col).1 (H2.out bd _ _ HST.out.blk HST.out.col).2).1.cell 1
  have hB2 := H3.out.mod.size
  have hrw := H3.out.rw (by decide)
  simp only at hrw
  have hk0 := hrw.blk.cell 0
  have hkl := hrw.blk.lt
  have hkf := hrw.blk.frozen 0
  have hscs := hrw.scs
  obtain ⟨m, hm⟩ : ∃ m, d.sd.length = m := ⟨_, rfl⟩
  rw [hm] at hscs
  have hm40 : m ≤ 40 := by rw [← hm, HST.out.ok.sd]; have := HST.out.ok.f2; have := HST.out.k40; omega
  obtain ⟨Av, cv, hvs, _, _⟩ := own_slice hscs
  obtain ⟨vs, hvs2⟩ : ∃ vs, vs = d.vs := ⟨_, rfl⟩
  rw [← hvs2] at hk0 hscs
  obtain ⟨W, hW⟩ : ∃ W, W = w2.drew := ⟨_, rfl⟩
  have HW := Lib.hid hW
  have HMW := Lib.hid (show Mod Nil w2 W by rw [hW]; exact (Mod.refl Nil w2).drew)
  have HSCS := Lib.hid (show W.ownsRow w0.heap.size 41 2 vs m ((d.sd.zip d.rb).flatMap rscCells) by rw [hW]; exact hscs)
  have hk0W : W.cell? ⟨d.gm, 0, none⟩ = some vs := by rw [hW]; exact hk0
  have hb2W : W.cell? ⟨bd, 1, none⟩ = some (.int .i64 dd.n) := by rw [hW]; exact hb2
  have hBW : w0.heap.size ≤ W.heap.size := by rw [hW]; exact hB2
  have hglW : d.gm < W.heap.size := by rw [hW]; exact hkl
  have HVS := Lib.hid hvs2
  have HM := Lib.hid hm
  have HKK := Lib.hid HST.out.kk
  obtain ⟨n, hn⟩ : ∃ n, n = (max dd.n 0).toNat := ⟨_, rfl⟩
  have hn300 : n ≤ 300 := by omega
  have HNN := Lib.hid hn
  obtain ⟨l0, hl, hl0, hl1, hl2⟩ := info_parts word_info
  have hmk : ∀ (w : World), (Instr.makeSlice 35 (.int .i64 (n : Int)) (.int .i64 (n : Int))).run Try.prog w = .ok (.slice (some ⟨w.heap.size, 0, none⟩) n n) (w.alloc (.cells ((List.replicate n (0 : Int)).map wv).toArray 34)) := by
    intro w
    have := run_make (P := Try.prog) w 35 34 l0 (.int .u64 0) Try.underlying35 hl hl0 .i64 .i64 (n : Int) (n : Int) (by omega) (by omega) (by rw [hl2]; omega) (by omega)
    rw [this, hl1, Int.toNat_natCast, madeCells_w]
  obtain ⟨C1, hC1⟩ : ∃ C1, C1 = ((List.replicate n (0 : Int)).map wv).toArray := ⟨_, rfl⟩
  rw [← hC1] at hmk
  have HC1 := Lib.hid hC1
  -- what stands at the end
  have hfin : ∀ A' c' w', w'.ownsRow w0.heap.size 41 2 (.slice A' (m + 1) c') (m + 1) ((d.sd.zip d.rb).flatMap rscCells ++ [.slice (some ⟨W.heap.size, 0, none⟩) n n, .int .i64 (upI kk)]) →
      Mod (fun k => vs.ownBlock = some k) ((W.alloc (.cells C1 34)).alloc (.cells #[.slice (some ⟨W.heap.size, 0, none⟩) n n, .int .i64 (upI kk)] 41)) w' →
      (∀ k, (Value.slice A' (m + 1) c').ownBlock = some k → vs.ownBlock = some k ∨ ((W.alloc (.cells C1 34)).alloc (.cells #[.slice (some ⟨W.heap.size, 0, none⟩) n n, .int .i64 (upI kk)] 41)).heap.size ≤ k) →
      DoSt w0 d.g d.gm (k + 1) (.slice A5 (ns + 1) c5) (w'.setCell ⟨d.gm, 0, none⟩ (.slice A' (m + 1) c')) := by
    intro A' c' w' ho hmo hat
    have hmW : Mod Nil w2 ((W.alloc (.cells C1 34)).alloc (.cells #[.slice (some ⟨W.heap.size, 0, none⟩) n n, .int .i64 (upI kk)] 41)) := (HMW.out.alloc _).alloc _
    have hbC : Blk ((W.alloc (.cells C1 34)).alloc (.cells #[.slice (some ⟨W.heap.size, 0, none⟩) n n, .int .i64 (upI kk)] 41)) W.heap.size 34 ((List.replicate n (0 : Int)).map wv).toArray := by
      rw [← HC1.out]
      exact (Blk.new W _ _).alloc _
    have hok := HST.out.ok
    obtain ⟨q1, _⟩ := H3.out.rscope (m := m) (n := n) (k := kk) (A' := A') (c' := c') (by simp only; exact HM.out) hmW hbC HMW.out.size (by simpa [rscCells] using ho) (by simp only [← HVS.out]; exact hmo) (by simp only [← HVS.out]; exact hat) (fun j hj => by simp only; rw [hok.sd]; exact HKK.out j hj)
    refine ⟨_, q1, rfl, rfl, rfl, ?_, hok.fl, ?_, hok.lst, hok.l0, hok.up.l1, hok.up.f1, ?_, ?_, hok.f4⟩
    · simp only [hok.sd, HNN.out]
    · simp only [hok.cs, List.map_append, List.map_cons, List.map_nil]
    · simp only [List.length_append, List.length_cons, List.length_nil]
      have := hok.f2
      omega
    · intro s hs
      rcases List.mem_append.1 hs with hs | hs
      · exact hok.f3 s hs
      · obtain rfl := List.mem_singleton.1 hs
        simp only [List.length_replicate]
        omega
  have HFIN := Lib.hid hfin
  have HBG := Lib.hid (show ∀ wa wx, Mod Nil W wa → Mod (fun k => vs.ownBlock = some k) wa wx → Blk wx d.gm 31 #[vs, d.vl, .int .i64 d.lst] from fun wa wx h1 h2 => by
    have hb := (hrw.blk.keep HMW.out id).keep h1 id
    rw [hvs2]
    refine hb.keep h2 (fun e => ?_)
    rw [hvs2] at e
    exact own_blk_ne hrw.scs hrw.blk (by decide) e)
  obtain ⟨XS, hXS⟩ : ∃ XS, XS = (d.sd.zip d.rb).flatMap rscCells := ⟨_, rfl⟩
  rw [← hXS] at HFIN HSCS
  obtain ⟨iz, hiz⟩ : ∃ iz, iz = upI kk := ⟨_, rfl⟩
  rw [← hiz] at HFIN HF
  clear hi hz0 hz1 hz2 hl hl0 hl1 hl2 hb2 hk0 hkl hkf hscs hrw hm hvs hvs2 hn hC1 hfin hXS hiz hB1 hB2 hc1 hW
  have hszW1 : (W.alloc (.cells C1 34)).heap.size = W.heap.size + 1 := by simp
  rcases Int.lt_trichotomy dd.n 0 with h0 | h0 | h0
  case' inl =>
    have HN0 := Lib.hid (show n = 0 by have := HNN.out; omega)
    rw [show (n : Int) = 0 by have := HN0.out; omega] at hmk
  case' inr.inl =>
    have HN0 := Lib.hid (show n = 0 by have := HNN.out; omega)
    rw [show (n : Int) = 0 by have := HN0.out; omega] at hmk
    rw [h0] at hb2W
    clear h0
  case' inr.inr =>
    have hnn : dd.n = (n : Int) := by have := HNN.out; omega
    have h1 : 0 < n := by omega
    rw [hnn] at hb2W
    clear hnn h0
  all_goals
    conv => arg 2; whnf
    apply sl_flow5 (N := 4) [some 135, some 136, some 137, some 138, some 139, some 140, some 141, some 142, some 143, some 144, some 145, some 146, some 147, some 148, some 149, none] [.quiet 0 3, .quiet 0 2, .quiet 0 2, .quiet 0 2, .quiet 0 2, .quiet 0 0, .quiet 0 0, .quiet 0 0, .writes 0, .quiet 0 1, .quiet 1 1, .writes 1, .writes 2, .quiet 3 3, .quiet 3 3, .writes 3] (PhSc W d.gm w0.heap.size m n vs XS C1 #[.slice (some ⟨W.heap.size, 0, none⟩) n n, .int .i64 iz] (fun wx => DoSt w0 d.g d.gm (k + 1) (.slice A5 (ns + 1) c5) wx)) [_, _, _, _, _, _, _, _, (fun h => h 0), _, _, (fun h => h 1), (fun h => h 2), _, _, (fun h => h 3)] HF
    case hm => kernel_rfl
    case hok => kernel_rfl
    case hfl => rfl
    case h0 => exact (fun _ => ⟨fun _ => (by rw [← HW.out]; exact hk0W), fun _ => HW.out.symm, fun h => absurd h (by decide), fun h => absurd h (by decide), fun h => absurd h (by decide), fun h => absurd h (by decide), fun h => absurd h (by decide), fun h => absurd h (by decide)⟩)
    case hobs =>
      apply And.intro
      · apply ob_quiet
        case hg => rfl
        case hop =>
          intro ax wx h k hlo hhi hP hk K hK
          have e4 := hk.see 4 rfl rfl
          clear hk
          go_wp2_with fail
          all_goals first | exact hP | rfl
        case hst => exact fun h h' e => rfl
      apply And.intro
      · apply ob_quiet
        case hg => rfl
        case hop =>
          intro ax wx h k hlo hhi hP hk K hK
          have e4 := hk.see 4 rfl rfl
          clear hk
          go_wp2_with fail
          all_goals first | exact hP | rfl
        case hst => exact fun h h' e => rfl
      apply And.intro
      · apply ob_quiet
        case hg => rfl
        case hop =>
          intro ax wx h k hlo hhi hP hk K hK
          have e136 := hk.see 136 rfl rfl
          clear hk
          go_wp2_with fail
          all_goals first | exact hP | rfl
        case hst => exact fun h h' e => rfl
      apply And.intro
      · apply ob_quiet
        case hg => rfl
        case hop =>
          intro ax wx h k hlo hhi hP hk K hK
          have e137 := hk.see 137 rfl rfl
          clear hk
          go_wp2_with fail
          all_goals first | exact hP | rfl
        case hst => exact fun h h' e => rfl
      apply And.intro
      · apply ob_quiet
        case hg => rfl
        case hop =>
          intro ax wx h k hlo hhi hP hk K hK
          have e138 := hk.see 138 rfl rfl
          clear hk
          have hcx := hP.c0 (by omega)
          go_wp2_with fail
          all_goals first | exact hP | rfl
        case hst => exact fun h h' e => rfl
      apply And.intro
      · apply ob_quiet
        case hg => rfl
        case hop =>
          intro ax wx h k hlo hhi hP hk K hK
          have e7 := hk.see 7 rfl rfl
          clear hk
          go_wp2_with fail
          all_goals first | exact hP | rfl
        case hst => exact fun h h' e => rfl
      apply And.intro
      · apply ob_quiet
        case hg => rfl
        case hop =>
          intro ax wx h k hlo hhi hP hk K hK
          have e140 := hk.see 140 rfl rfl
          clear hk
          obtain rfl : wx = W := hP.s0 (by omega)
          go_wp2_with fail
          all_goals first | exact hP | rfl
        case hst => exact fun h h' e => rfl
      apply And.intro
      · apply ob_quiet
        case hg => rfl
        case hop =>
          intro ax wx h k hlo hhi hP hk K hK
          have e141 := hk.see 141 rfl rfl
          clear hk
          go_wp2_with fail
          all_goals first | exact hP | rfl
        case hst => exact fun h h' e => rfl
      refine And.intro (ob_writes rfl ?op) ?_
      case op =>
        intro ax wx h hP hk K hK
        have e142 := hk.see 142 rfl rfl
        clear hk
        obtain rfl : wx = W := hP.s0 rfl
        clear hP
        go_wp2_with fail
        exact ⟨fun _ => ((Mod.refl Nil wx).alloc _).cell (p := ⟨d.gm, 0, none⟩) hglW id |>.trans hk0W, fun h => absurd h (by decide), fun _ => rfl, fun h => absurd h (by decide), fun h => absurd h (by decide), fun h => absurd h (by decide), fun _ => upd_same _ _ _, fun h => absurd h (by decide)⟩
      apply And.intro
      · apply ob_quiet
        case hg => rfl
        case hop =>
          intro ax wx h k hlo hhi hP hk K hK
          have e8 := hk.see 8 rfl rfl
          clear hk
          go_wp2_with fail
          all_goals first | exact hP | rfl
        case hst => exact fun h h' e => rfl
      apply And.intro
      · apply ob_quiet
        case hg => rfl
        case hop =>
          intro ax wx h k hlo hhi hP hk K hK
          have e143 := hk.see 143 rfl rfl
          have e144 := hk.see 144 rfl rfl
          try dsimp only at e143
          clear hk
          rw [hP.h0 (by omega)] at e143
          go_wp2_with fail
          all_goals first | exact hP | rfl
        case hst => exact fun h h' e => by first | rfl | simp only [e 0 (by decide)]
      refine And.intro (ob_writes rfl ?op) ?_
      case op =>
        intro ax wx h hP hk K hK
        have e145 := hk.see 145 rfl rfl
        try dsimp only at e145
        clear hk
        obtain rfl := hP.s1 rfl
        have hh0 := Lib.hid (hP.h0 (by decide))
        clear hP
        go_wp2_with fail
        exact ⟨fun _ => (((Mod.refl Nil W).alloc _).alloc _).cell (p := ⟨d.gm, 0, none⟩) hglW id |>.trans hk0W, fun h => absurd h (by decide), fun h => absurd h (by decide), fun _ => rfl, fun h => absurd h (by decide), fun h => absurd h (by decide), fun _ => by rw [upd_ne _ _ (by decide)]; exact hh0.out, fun _ => by rw [upd_same]⟩
      refine And.intro (ob_writes rfl ?op) ?_
      case op =>
        intro ax wx h hP hk K hK
        have e139 := hk.see 139 rfl rfl
        have e146 := hk.see 146 rfl rfl
        try dsimp only at e146
        clear hk
        obtain rfl := hP.s2 rfl
        have hh0 := Lib.hid (hP.h0 (by decide))
        have hh1 := Lib.hid (hP.h1 (by decide))
        rw [hP.h1 (by decide)] at e146
        clear hP
        refine op_append1 _ rfl 139 146 28 rfl w0.heap.size 41 j0 (.agg #[.slice none 0 0, .int .i64 0]) 2 32 Try.underlying28 hj hy0 hy1 hy2 rfl (by decide) vs m XS e139 ?_ (W.heap.size + 1) 41 #[.slice (some ⟨W.heap.size, 0, none⟩) n n, .int .i64 iz] 1 e146 ?_ rfl (by intro u hu; simp at hu; rcases hu with rfl | rfl <;> rfl) (by omega) (by decide) (by simp; omega) ?_
        · exact own_keep HSCS.out (((Mod.refl Nil W).alloc _).alloc _) (fun _ _ => id)
        · have := Blk.new (W.alloc (.cells C1 34)) 41 #[.slice (some ⟨W.heap.size, 0, none⟩) n n, .int .i64 iz]
          rw [hszW1] at this
          exact this
        intro A' c' w' ho hmo hat
        exact hK _ _ ⟨fun h => absurd h (by decide), fun h => absurd h (by decide), fun h => absurd h (by decide), fun h => absurd h (by decide), fun _ => ⟨A', c', upd_same _ _ _, ho, hmo, hat⟩, fun h => absurd h (by decide), fun _ => by rw [upd_ne _ _ (by decide)]; exact hh0.out, fun _ => by rw [upd_ne _ _ (by decide)]; exact hh1.out⟩
      apply And.intro
      · apply ob_quiet
        case hg => rfl
        case hop =>
          intro ax wx h k hlo hhi hP hk K hK
          have e135 := hk.see 135 rfl rfl
          clear hk
          go_wp2_with fail
          all_goals first | exact hP | rfl
        case hst => exact fun h h' e => by first | rfl | simp only [e 0 (by decide)] | simp only [e 1 (by decide)] | simp only [e 2 (by decide)] | simp only [e 0 (by decide), e 1 (by decide), e 2 (by decide)]
      apply And.intro
      · apply ob_quiet
        case hg => rfl
        case hop =>
          intro ax wx h k hlo hhi hP hk K hK
          have e148 := hk.see 148 rfl rfl
          try dsimp only at e148
          clear hk
          go_wp2_with fail
          all_goals first | exact hP | rfl
        case hst => exact fun h h' e => by first | rfl | simp only [e 0 (by decide)] | simp only [e 1 (by decide)] | simp only [e 2 (by decide)] | simp only [e 0 (by decide), e 1 (by decide), e 2 (by decide)]
      refine And.intro (ob_writes rfl ?op) ?_
      case op =>
        intro ax wx h hP hk K hK
        have e149 := hk.see 149 rfl rfl
        have e147 := hk.see 147 rfl rfl
        try dsimp only at e149 e147
        clear hk
        obtain ⟨A', c', e, ho, hmo, hat⟩ := hP.s3 rfl
        rw [e] at e147
        have hbg := HBG.out _ wx (((Mod.refl Nil W).alloc _).alloc _) hmo
        have kc := hbg.cell 0
        have kf := hbg.frozen 0
        have kl := hbg.lt
        have HH := Lib.hid (HFIN.out _ _ _ ho hmo hat)
        have HP := Lib.hid hP
        clear hP e ho hmo hat hbg
        go_wp2_with fail
        exact hK undef _ ⟨fun h => absurd h (by decide), fun h => absurd h (by decide), fun h => absurd h (by decide), fun h => absurd h (by decide), fun h => absurd h (by decide), fun _ => HH.out, fun _ => by rw [upd_ne _ _ (by decide)]; exact HP.out.h0 (by decide), fun _ => by rw [upd_ne _ _ (by decide)]; exact HP.out.h1 (by decide)⟩
      exact trivial
    intro w3 a3 h3 hP HF
    exact HQ.out _ _ _ (HF.keep [0, 3, 4, 5, 6]) (hP.s4 rfl)
end Go.Proofs.Ytpjpmlhnhcmacaa
