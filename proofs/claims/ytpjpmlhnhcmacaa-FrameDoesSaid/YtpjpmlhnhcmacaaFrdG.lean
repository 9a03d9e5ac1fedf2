/- The law FrameDoes: the arms of the switch, third part: Push. -/
import Derived.Test.YtpjpmlhnhcmacaaFrdF
namespace Go.Proofs.Ytpjpmlhnhcmacaa
open Go.RowKit

/-- The copied stack; both pushes. -/
structure PhPu (w0 W : World) (d : FD) (bd m : Nat) (mx : Int) (dd : Deed) (B : Option Addr) (cB : Nat) (kk : Option Nat) (k : Nat) (h : Hist) (w : World) : Prop where
  c : DoBlk w bd dd B cB
  md : k ≤ 2 → Mod Nil W w
  s0 : k = 0 → w = W
  s1 : k = 1 → w = W.alloc (.cells #[] 34)
  h0 : 0 < k → h 0 = .slice (some ⟨W.heap.size, 0, none⟩) 0 0
  s2 : k = 2 → ∃ A' c', h 1 = .slice A' m c' ∧ w.ownsRow w0.heap.size 34 1 (.slice A' m c') m (dd.l.map wv) ∧ ∀ k, (Value.slice A' m c').ownBlock = some k → W.heap.size ≤ k
  h2 : 2 < k → h 2 = .tuple #[.int .i64 (d.last + 1), .int .i64 0]
  s3 : k = 3 → ∃ v' f col, FSP 0 w0 w { d with col := col, v := v', last := d.last + 1, fs := d.fs ++ [f], fl := d.fl ++ [⟨d.last + 1, if mx = 0 then d.last + 1 else mx, dd.x, dd.l, kk⟩] } ∧ Side W d.col w col

set_option maxHeartbeats 3200000 in
set_option maxRecDepth 100000 in
theorem frdo_arm2 {Q : Exit → Act → World → Prop} {a : Act} {w w0 : World} {g gm k bd cB : Nat} {d : FD} {dd : Deed} {B : Option Addr} {kk : Option Nat} {v0 v6 v10 v11 : Value}
    (HF : Sl 344 [(0, v0), (3, .pointer (some ⟨g, 0, none⟩)), (4, .pointer (some ⟨gm, 0, none⟩)), (5, d.sv), (6, v6), (7, .pointer (some ⟨bd, 0, none⟩)), (8, .int .i64 (upI kk)), (9, upV (d.bs.map (·.1)) kk), (10, v10), (11, v11)] a)
    (hst : ArmSt w0 w g gm k d bd dd B cB kk)
    (hQ : ∀ a' w' sv', Sl 344 [(0, v0), (3, .pointer (some ⟨g, 0, none⟩)), (4, .pointer (some ⟨gm, 0, none⟩)), (5, sv'), (6, v6)] a' → DoSt w0 g gm (k + 1) sv' w' → Q .normal a' w') :
    (part [1, 1, 1, 1, 1, 0, 1, 0, 0, 1, 0, 0, 1, 1, 1, 1, 1, 1, 0, 1, 0, 1, 1, 1, 1, 1, 0] doBody).wp Try.prog Q a w := by
  obtain rfl := hst.ok.g
  obtain rfl := hst.ok.gm
  obtain ⟨i0, hi, hz0, hz1, hz2⟩ := info_parts word_info
  have HST := Lib.hid hst
  have HQ := Lib.hid hQ
  obtain ⟨u9, hu9⟩ : ∃ u, u = upV (d.bs.map (·.1)) kk := ⟨_, rfl⟩
  rw [← hu9] at HF
  have HU9 := Lib.hid hu9
  obtain ⟨m, hm⟩ : ∃ m, dd.l.length = m := ⟨_, rfl⟩
  have hm20 : m ≤ 20 := by rw [← hm]; exact hst.l20
  have HM := Lib.hid hm
  obtain ⟨pp, rfl⟩ : ∃ pp, u9 = .pointer pp := by rw [HU9.out]; cases kk <;> exact ⟨_, rfl⟩
  obtain ⟨mx, hmx⟩ : ∃ mx, (if dd.n < 0 then (0 : Int) else dd.n) = mx := ⟨_, rfl⟩
  have HMX := Lib.hid (show max dd.n 0 = mx by rw [← hmx]; split <;> omega)
  have hBW : w0.heap.size ≤ w.heap.size := hst.ok.st.mod.size
  obtain ⟨W, hW⟩ : ∃ W, W = w.drew := ⟨_, rfl⟩
  have HW := Lib.hid hW
  have HSTW := Lib.hid (show ArmSt w0 W d.g d.gm k d bd dd B cB kk by rw [hW]; exact hst.keep ((Mod.refl Nil w).drew))
  have hBW' : w0.heap.size ≤ W.heap.size := by rw [hW]; exact hBW
  clear hst hQ hu9 hm hW hBW
  conv => arg 2; whnf
  refine wp_seq ?_
  apply sl_flow5 (N := 3) [some 179, some 180, some 181, some 182, some 183, some 184, some 185, some 186, some 187, some 188, some 189, some 190, some 191, some 178, some 192, some 193, some 12, some 13] [.quiet 0 2, .quiet 0 2, .quiet 0 2, .quiet 0 2, .quiet 0 2, .quiet 0 2, .quiet 0 2, .writes 0, .quiet 0 1, .quiet 0 1, .writes 1, .quiet 2 2, .writes 2, .quiet 3 3, .quiet 3 3, .quiet 3 3, .quiet 3 3, .quiet 3 3] (PhPu w0 W d bd m mx dd B cB kk) [_, _, _, _, _, _, _, (fun h => h 0), _, _, (fun h => h 1), _, (fun h => h 2), _, _, _, _, _] HF
  case hm => kernel_rfl
  case hok => kernel_rfl
  case hfl => rfl
  case h0 => exact (fun _ => ⟨by rw [← HW.out]; exact HSTW.out.blk, fun _ => by rw [← HW.out]; exact Mod.refl _ _, fun _ => HW.out.symm, fun h => absurd h (by decide), fun h => absurd h (by decide), fun h => absurd h (by decide), fun h => absurd h (by decide), fun h => absurd h (by decide)⟩)
  case hobs =>
    apply And.intro
    · apply ob_quiet
      case hg => rfl
      case hop =>
        intro ax wx h k hlo hhi hP hk K hK
        have e3 := hk.see 3 rfl rfl
        clear hk
        go_wp2_with fail
        all_goals first | exact hP | rfl
      case hst => exact fun h h' e => rfl
    apply And.intro
    · apply ob_quiet
      case hg => rfl
      case hop =>
        intro ax wx h k hlo hhi hP hk K hK
        have e7 := hk.see 7 rfl rfl
        clear hk
        go_wp2_with fail
        all_goals first | exact hP | rfl
      case hst => exact fun h h' e => rfl
    apply And.intro
    · apply ob_quiet
      case hg => rfl
      case hop =>
        intro ax wx h k hlo hhi hP hk K hK
        have e180 := hk.see 180 rfl rfl
        clear hk
        have hcx := hP.c.cell 4
        go_wp2_with fail
        all_goals first | exact hP | rfl
      case hst => exact fun h h' e => rfl
    apply And.intro
    · apply ob_quiet
      case hg => rfl
      case hop =>
        intro ax wx h k hlo hhi hP hk K hK
        have e7 := hk.see 7 rfl rfl
        clear hk
        go_wp2_with fail
        all_goals first | exact hP | rfl
      case hst => exact fun h h' e => rfl
    apply And.intro
    · apply ob_quiet
      case hg => rfl
      case hop =>
        intro ax wx h k hlo hhi hP hk K hK
        have e182 := hk.see 182 rfl rfl
        clear hk
        have hcx := hP.c.cell 1
        go_wp2_with fail
        all_goals first | exact hP | rfl
      case hst => exact fun h h' e => rfl
    apply And.intro
    · apply ob_quiet
      case hg => rfl
      case hop =>
        intro ax wx h k hlo hhi hP hk K hK
        have e183 := hk.see 183 rfl rfl
        clear hk
        go_wp2_with fail
        all_goals first | exact hP | rfl
      case hst => exact fun h h' e => rfl
    apply And.intro
    · apply ob_quiet
      case hg => rfl
      case hop =>
        intro ax wx h k hlo hhi hP hk K hK
        have e9 := hk.see 9 rfl rfl
        clear hk
        go_wp2_with fail
        all_goals first | exact hP | rfl
      case hst => exact fun h h' e => rfl
    refine And.intro (ob_writes rfl ?op) ?_
    case op =>
      intro ax wx h hP hk K hK
      clear hk
      obtain rfl : wx = W := hP.s0 rfl
      have HC := Lib.hid hP.c
      clear hP
      go_wp2_with fail
      exact ⟨HC.out.alloc _, fun _ => (Mod.refl Nil wx).alloc _, fun h => absurd h (by decide), fun _ => rfl, fun _ => upd_same _ _ _, fun h => absurd h (by decide), fun h => absurd h (by decide), fun h => absurd h (by decide)⟩
    apply And.intro
    · apply ob_quiet
      case hg => rfl
      case hop =>
        intro ax wx h k hlo hhi hP hk K hK
        have e7 := hk.see 7 rfl rfl
        clear hk
        go_wp2_with fail
        all_goals first | exact hP | rfl
      case hst => exact fun h h' e => rfl
    apply And.intro
    · apply ob_quiet
      case hg => rfl
      case hop =>
        intro ax wx h k hlo hhi hP hk K hK
        have e187 := hk.see 187 rfl rfl
        clear hk
        have hcx := hP.c.cell 5
        go_wp2_with fail
        all_goals first | exact hP | rfl
      case hst => exact fun h h' e => rfl
    refine And.intro (ob_writes rfl ?op) ?_
    case op =>
      intro ax wx h hP hk K hK
      have e186 := hk.see 186 rfl rfl
      have e188 := hk.see 188 rfl rfl
      try dsimp only at e186
      clear hk
      obtain rfl := hP.s1 rfl
      have HP := Lib.hid hP
      rw [hP.h0 (by decide)] at e186
      have hrd := (HSTW.out.rd.keep0 HSTW.out.ok.st.mod).keep0 ((Mod.refl Nil W).alloc (.cells #[] 34))
      clear hP
      refine op_append _ rfl (.tmp 186) (.tmp 188) 35 rfl w0.heap.size 34 i0 (.int .u64 0) 1 8 Try.underlying35 hi hz0 hz1 hz2 rfl (by decide) (.slice (some ⟨W.heap.size, 0, none⟩) 0 0) 0 [] ((Act.eval_tmp _ _).trans e186) (own_empty (Blk.new _ _ _) hBW') B m cB (dd.l.map wv) ((Act.eval_tmp _ _).trans (e188.trans (by rw [HM.out]))) (by simp [HM.out]) ?_ (by intro u hu; obtain ⟨x, _, rfl⟩ := List.mem_map.1 hu; rfl) (by omega) (by simp only [maxLen]; omega) (by simp; omega) ?_
      · intro hm0
        obtain ⟨ad, e, _, _, hcl⟩ := hrd (by rw [List.length_map, HM.out]; exact hm0)
        exact ⟨ad, e, hcl⟩
      intro A' c' w' ho hmo hat
      have hnb : ∀ k, (Value.slice (some ⟨W.heap.size, 0, none⟩) 0 0).ownBlock = some k → W.heap.size ≤ k := fun k hk => by
        have : W.heap.size = k := by simpa [Value.ownBlock] using hk
        omega
      have hmW : Mod Nil W w' := ((Mod.refl Nil W).alloc (.cells #[] 34)).trans' hmo (fun _ _ h => h) (fun k hk hkv => by have := hnb k hkv; omega)
      simp only [Nat.zero_add, List.nil_append] at ho hat ⊢
      refine hK _ _ ⟨Blk.keep HSTW.out.blk hmW id, fun _ => hmW, fun h => absurd h (by decide), fun h => absurd h (by decide), fun _ => by rw [upd_ne _ _ (by decide)]; exact HP.out.h0 (by decide), fun _ => ⟨A', c', upd_same _ _ _, ho, fun k hk => ?_⟩, fun h => absurd h (by decide), fun h => absurd h (by decide)⟩
      rcases hat k hk with h1 | h1
      · exact hnb k h1
      · simp at h1; omega
    apply And.intro
    · apply ob_quiet
      case hg => rfl
      case hop =>
        intro ax wx h k hlo hhi hP hk K hK
        have e181 := hk.see 181 rfl rfl
        have e184 := hk.see 184 rfl rfl
        have e185 := hk.see 185 rfl rfl
        have e189 := hk.see 189 rfl rfl
        try dsimp only at e189
        clear hk
        obtain ⟨A', c', e, _, _⟩ := hP.s2 (by omega)
        rw [e] at e189
        have HP := Lib.hid hP
        have HE := Lib.hid e
        clear hP e
        go_wp2_with fail
        rw [← HE.out]
        exact hK _ HP.out
      case hst => exact fun h h' e => by first | rfl | simp only [e 0 (by decide)] | simp only [e 1 (by decide)] | simp only [e 0 (by decide), e 1 (by decide)]
    refine And.intro (ob_writes rfl ?op) ?_
    case op =>
      intro ax wx h hP hk K hK
      have e179 := hk.see 179 rfl rfl
      have e190 := hk.see 190 rfl rfl
      try dsimp only at e190
      clear hk
      obtain ⟨A', c', e, ho, hob⟩ := hP.s2 rfl
      rw [e] at e190
      have hst := HSTW.out.ok.st.others (hP.md (by decide)) 5 (fun _ _ h => h.elim)
      have hst0 := hst.all
      have hsd := side_of (col := d.col) (i := 5) (hP.md (by decide)) (fun _ _ h => h.elim) (by decide)
      have hpu := fs_push hst0 (fun i => (#[Value.int IntKind.i64 0, Value.int IntKind.i64 0, Value.slice none 0 0, Value.slice none 0 0, Value.slice none 0 0, Value.string { data := #[] }, Value.int IntKind.i64 0, Value.int IntKind.u64 dd.x, Value.pointer pp, Value.slice A' m c', Value.string { data := #[] }] : Array Value)[i]) ⟨0, mx, dd.x, dd.l, kk⟩ rfl HU9.out
        ⟨A', c', by simp only [HM.out]; rfl, by simp only [HM.out]; exact ho, fun k hk => nc_of (fun hlt => by simp only [HM.out] at hk; have := hob k hk; omega)⟩
        (fun j hj => by have := HSTW.out.kk j hj; have := (HSTW.out.ok.st.sc (by decide)).len; simp only; omega) (by simp only; rw [HSTW.out.ok.st.frl]; have := HSTW.out.ok.f1; have := HSTW.out.k40; omega) HSTW.out.ok.l0 (by have := HSTW.out.ok.l1; have := HSTW.out.k40; simp only; omega)
      have HPU := Lib.hid hpu
      have HSD := Lib.hid hsd
      have HP := Lib.hid hP
      clear hst hst0 hsd hpu hP e ho hob
      go_wp2_with fail
      refine HPU.out.mono ?_
      rintro r w' ⟨rfl, v', f, col, h1, h2⟩
      have hs := HSD.out.trans h2
      exact hK _ _ ⟨(hs bd _ _ HSTW.out.blk HSTW.out.col).1, fun h => absurd h (by decide), fun h => absurd h (by decide), fun h => absurd h (by decide), fun _ => by rw [upd_ne _ _ (by decide)]; exact HP.out.h0 (by decide), fun h => absurd h (by decide), fun _ => upd_same _ _ _, fun _ => ⟨v', f, col, h1, hs⟩⟩
    apply And.intro
    · apply ob_quiet
      case hg => rfl
      case hop =>
        intro ax wx h k hlo hhi hP hk K hK
        have e191 := hk.see 191 rfl rfl
        try dsimp only at e191
        clear hk
        go_wp2_with fail
        all_goals first | exact hP | rfl
      case hst => exact fun h h' e => by first | rfl | simp only [e 0 (by decide)] | simp only [e 1 (by decide)] | simp only [e 2 (by decide)] | simp only [e 0 (by decide), e 1 (by decide), e 2 (by decide)]
    apply And.intro
    · apply ob_quiet
      case hg => rfl
      case hop =>
        intro ax wx h k hlo hhi hP hk K hK
        have e178 := hk.see 178 rfl rfl
        try dsimp only at e178
        clear hk
        rw [hP.h2 (by omega)] at e178
        go_wp2_with fail
        all_goals first | exact hP | rfl
      case hst => exact fun h h' e => by first | rfl | simp only [e 0 (by decide)] | simp only [e 1 (by decide)] | simp only [e 2 (by decide)] | simp only [e 0 (by decide), e 1 (by decide), e 2 (by decide)]
    apply And.intro
    · apply ob_quiet
      case hg => rfl
      case hop =>
        intro ax wx h k hlo hhi hP hk K hK
        have e178 := hk.see 178 rfl rfl
        try dsimp only at e178
        clear hk
        rw [hP.h2 (by omega)] at e178
        go_wp2_with fail
        all_goals first | exact hP | rfl
      case hst => exact fun h h' e => by first | rfl | simp only [e 0 (by decide)] | simp only [e 1 (by decide)] | simp only [e 2 (by decide)] | simp only [e 0 (by decide), e 1 (by decide), e 2 (by decide)]
    apply And.intro
    · apply ob_quiet
      case hg => rfl
      case hop =>
        intro ax wx h k hlo hhi hP hk K hK
        have e192 := hk.see 192 rfl rfl
        try dsimp only at e192
        clear hk
        go_wp2_with fail
        all_goals first | exact hP | rfl
      case hst => exact fun h h' e => by first | rfl | simp only [e 0 (by decide)] | simp only [e 1 (by decide)] | simp only [e 2 (by decide)] | simp only [e 0 (by decide), e 1 (by decide), e 2 (by decide)]
    apply And.intro
    · apply ob_quiet
      case hg => rfl
      case hop =>
        intro ax wx h k hlo hhi hP hk K hK
        have e193 := hk.see 193 rfl rfl
        try dsimp only at e193
        clear hk
        go_wp2_with fail
        all_goals first | exact hP | rfl
      case hst => exact fun h h' e => by first | rfl | simp only [e 0 (by decide)] | simp only [e 1 (by decide)] | simp only [e 2 (by decide)] | simp only [e 0 (by decide), e 1 (by decide), e 2 (by decide)]
    exact trivial
  intro w1 a' h hP HF
  obtain ⟨v', f, col, h1, h2⟩ := hP.s3 rfl
  have hb := hP.c
  have hcb := (h2 bd _ _ HSTW.out.blk HSTW.out.col).2
  have hc1 := hb.cell 1
  have hc4 := hb.cell 4
  have hc5 := hb.cell 5
  have hok := HSTW.out.ok
  have hal : d.acs.length = d.fl.length := by rw [← hok.fl, List.length_map]
  have hrp := fs_rpush h1 ⟨⟨0, mx, dd.x, dd.l, kk⟩, B, cB⟩ (by simp only [hal]; have := hok.f1; have := HSTW.out.k40; omega) (by simp only [hok.lst]; exact hok.l0) (by simp only [hok.lst]; have := hok.l1; have := HSTW.out.k40; omega) (HSTW.out.rd.keep0 h1.mod)
  have HRP := Lib.hid hrp
  clear h1 h2 hb hcb hok hrp hP
  refine sl_then (wp_seq (wp_region_lit ?_))
  refine sl_move HF rfl rfl (.inl rfl) (by decide) rfl ?_; clear HF; intro _ HF
  refine sl_op HF rfl rfl (by decide) ?_; intro K hK; have e7 := HF.see 7 rfl; go_wp2_with fail; clear e7 HF; intro _ HF
  refine sl_op HF rfl rfl (by decide) ?_; intro K hK; have e196 := HF.see 196 rfl; go_wp2_with fail; clear e196 HF; intro _ HF
  refine sl_op HF rfl rfl (by decide) ?_; intro K hK; have e7 := HF.see 7 rfl; go_wp2_with fail; clear e7 HF; intro _ HF
  refine sl_op HF rfl rfl (by decide) ?_; intro K hK; have e198 := HF.see 198 rfl; go_wp2_with fail; clear e198 HF; intro _ HF
  refine sl_op HF rfl rfl (by decide) ?_; intro K hK; have e199 := HF.see 199 rfl; go_wp2_with fail; clear e199 HF; intro _ HF
  refine sl_move HF rfl rfl (.inl rfl) (by decide) rfl ?_; clear HF; intro _ HF
  refine sl_op HF rfl rfl (by decide) ?_; intro K hK; have e7 := HF.see 7 rfl; go_wp2_with fail; clear e7 HF; intro _ HF
  refine sl_op HF rfl rfl (by decide) ?_; intro K hK; have e202 := HF.see 202 rfl; go_wp2_with fail; clear e202 HF; intro _ HF
  refine sl_op HF rfl rfl (by decide) ?_; intro K hK; have e197 := HF.see 197 rfl; have e200 := HF.see 200 rfl; have e201 := HF.see 201 rfl; have e203 := HF.see 203 rfl; go_wp2_with fail; clear e197 e200 e201 e203 HF; intro _ HF
  refine sl_op HF rfl rfl (by decide) ?_; intro K hK; have e195 := HF.see 195 rfl; have e204 := HF.see 204 rfl; go_wp2_with fail
  refine HRP.out.mono ?_
  rintro r w2 ⟨rfl, vl', col', h1, h2⟩
  have hok := HSTW.out.ok
  have hlst := hok.lst
  have HLST := Lib.hid hlst
  have hfin : DoSt w0 d.g d.gm (k + 1) d.sv w2 := by
    refine ⟨_, h1, rfl, rfl, rfl, hok.sd, ?_, hok.cs, ?_, ?_, ?_, ?_, hok.up.f2, hok.f3, ?_⟩
    · simp only [List.map_append, hok.fl, hok.lst, List.map_cons, List.map_nil]
    · simp only [hok.lst]
    · have := hok.l0
      simp only
      omega
    · have := hok.l1
      simp only
      omega
    · have := hok.f1
      simp only [List.length_append, List.length_cons, List.length_nil]
      omega
    · intro a ha
      rcases List.mem_append.1 ha with ha | ha
      · exact hok.f4 a ha
      · obtain rfl := List.mem_singleton.1 ha
        simp only [HM.out]
        exact hm20
  have HFI := Lib.hid hfin
  simp only [HLST.out]
  clear h1 h2 hok hlst hfin
  go_wp2_with fail; clear e195 e204 HF; intro _ HF
  refine sl_move HF rfl rfl (.inl rfl) (by decide) rfl ?_; clear HF; intro _ HF
  refine sl_op HF rfl rfl (by decide) ?_; intro K hK; have e194 := HF.see 194 rfl; go_wp2_with fail; clear e194 HF; intro _ HF
  refine sl_op HF rfl rfl (by decide) ?_; intro K hK; have e194 := HF.see 194 rfl; go_wp2_with fail; clear e194 HF; intro _ HF
  refine sl_move HF rfl rfl (.inr rfl) (by decide) rfl ?_; clear HF; intro _ HF
  refine sl_move HF rfl rfl (.inr rfl) (by decide) rfl ?_; clear HF; intro _ HF
  refine sl_nil (wp_seq (wp_region_lit ?_))
  refine sl_move HF rfl rfl (.inl rfl) (by decide) rfl ?_; clear HF; intro _ HF
  refine sl_move HF rfl rfl (.inl rfl) (by decide) rfl ?_; clear HF; intro _ HF
  refine sl_op HF rfl rfl (by decide) ?_; intro K hK; have e208 := HF.see 208 rfl; have e209 := HF.see 209 rfl; go_wp2_with fail; clear e208 e209 HF; intro _ HF
  refine sl_move HF rfl rfl (.inl rfl) (by decide) rfl ?_; clear HF; intro _ HF
  refine sl_want HF rfl rfl rfl rfl (by decide) ?_; intro K hK; have e13 := HF.see 13 rfl; go_wp2_with fail; clear e13 HF; intro _ HF
  refine sl_want HF rfl rfl rfl rfl (by decide) ?_; intro K hK; have e15 := HF.see 15 rfl; go_wp2_with fail; clear e15 HF; intro _ HF
  refine sl_want HF rfl rfl rfl rfl (by decide) ?_; intro K hK; have e212 := HF.see 212 rfl; have e213 := HF.see 213 rfl; go_wp2_with fail; clear e212 e213 HF; intro _ HF
  refine sl_op HF rfl rfl (by decide) ?_; intro K hK; have e211 := HF.see 211 rfl; have e214 := HF.see 214 rfl; go_wp2_with fail; clear e211 e214 HF; intro _ HF
  refine sl_nil (wp_cond_false (HF.at 215 rfl) (wp_skip ?_))
  exact HQ.out _ _ _ (HF.keep [0, 3, 4, 5, 6]) HFI.out
end Go.Proofs.Ytpjpmlhnhcmacaa
