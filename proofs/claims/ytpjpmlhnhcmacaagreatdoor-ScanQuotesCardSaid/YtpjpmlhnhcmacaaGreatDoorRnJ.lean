/- The document's All, whole. -/
import Derived.Test.YtpjpmlhnhcmacaaGreatDoorRnI
namespace Go.Proofs.YtpjpmlhnhcmacaaGreatDoor
open Go.RowKit

theorem sl_ret3 {P : Program} {n : Nat} {L : List (Tmp × Value)} {a : Act} {fn : Func} {R : Ending → World → Prop} {w : World} {t u s : Tmp} {v x y : Value} (h : Sl n L a) (hr : fn.results = #[.tmp t, .tmp u, .tmp s]) (e : look L t = some v) (e' : look L u = some x) (e'' : look L s = some y) (hR : R (.returned (.tuple #[v, x, y])) w) : bodyPost P fn R .ret a w :=
  bodyPost_ret (results_tmp3 hr _ _ _) h.nd (by have h1 := h.sees t v e; have h2 := h.sees u x e'; have h3 := h.sees s y e''; simp only [Act.eval] at h1 h2 h3; rw [h1, h2, h3]; exact hR)

def RAllI (w0 : World) (l : List UInt8) (ac : Act) (w : World) : Prop :=
  ∃ (a : Nat) (done : List (Tok × Nat)) (A : Option Addr) (c : Nat), Sl 80 [(0, .string (str l)), (5, .slice A done.length c), (6, .int .i64 a)] ac ∧ RaSt w0 l (.slice A done.length c) a done w

theorem tok_info : (Tryz.prog.info? 32).map (fun i => (i.zero, i.size, i.bytes)) = some (some (.agg #[.int .i64 0, .string ⟨#[]⟩, .int .i64 0, .int .i64 0]), 4, 40) := by kernel_rfl
theorem tkC_one (p : Tok × Nat) : ∀ u ∈ tkC p, u.oneCell' = true := by
  intro u hu
  simp [tkC] at hu
  rcases hu with rfl | rfl | rfl | rfl <;> rfl

set_option maxHeartbeats 3200000 in
set_option maxRecDepth 100000 in
theorem rAll_any (l : List UInt8) (hl : l.length ≤ 5000) (w : World) : Calls Tryz.prog 14 #[.string (str l)] w fun e w' => AllIs w.heap.size (allR l) e w' ∧ Mod Nil w w' := by
  have hsz := str_size l
  refine sl_enter (n := 80) (fn := Tryz.f14) (c := raBody) Tryz.func14 rfl rfl (by simp) fun ac HF => ?_
  conv => arg 2; whnf
  refine wp_seq (wp_region_lit ?_)
  refine sl_const HF rfl rfl (.inr rfl) (by decide) ?_; clear HF; intro _ HF
  refine sl_const HF rfl rfl (.inr rfl) (by decide) ?_; clear HF; intro _ HF
  refine sl_const HF rfl rfl (.inr rfl) (by decide) ?_; clear HF; intro _ HF
  refine sl_nil (wp_seq (wp_seq (wp_region_lit ?_)))
  by_cases hbig : 4000 < l.length
  · have HR := Lib.hid (show allR l = .error (21, 0) by unfold allR; rw [if_pos hbig])
    have hb : decide (4000 < (l.length : Int)) = true := by simp; omega
    clear hbig
    refine sl_move HF rfl rfl (.inl rfl) (by decide) rfl ?_; clear HF; intro _ HF
    refine sl_op HF rfl rfl (by decide) ?_; intro K hK; have e11 := HF.see 11 rfl; go_wp2_with fail; clear e11 HF; intro _ HF
    refine sl_op HF rfl rfl (by decide) ?_; intro K hK; have e12 := HF.see 12 rfl; go_wp2_with fail; clear e12 HF; intro _ HF
    refine sl_nil (wp_cond_true (HF.at 13 rfl) (wp_seq (wp_region_lit ?_)))
    refine sl_const HF rfl rfl (.inr rfl) (by decide) ?_; clear HF; intro _ HF
    refine sl_const HF rfl rfl (.inr rfl) (by decide) ?_; clear HF; intro _ HF
    refine sl_const HF rfl rfl (.inr rfl) (by decide) ?_; clear HF; intro _ HF
    refine sl_nil (wp_ret ?_)
    try dsimp only [Exit.then]
    exact sl_ret3 HF rfl rfl rfl rfl (by rw [HR.out]; exact ⟨rfl, Mod.refl _ _⟩)
  have hb : decide (4000 < (l.length : Int)) = false := by simp; omega
  have HRE := Lib.hid (show ∀ p, allL l = .error p → allR l = .error (40, p) from fun p h => by unfold allR; rw [if_neg hbig, h])
  have HRO := Lib.hid (show ∀ ts, allL l = .ok ts → allR l = .ok ts from fun p h => by unfold allR; rw [if_neg hbig, h])
  obtain ⟨i0, hi, hz0, hz1, hz2⟩ := info_parts tok_info
  have HI := Lib.hid hi
  have HZ0 := Lib.hid hz0
  have HZ1 := Lib.hid hz1
  have HZ2 := Lib.hid hz2
  clear hbig hi hz0 hz1 hz2
  refine sl_move HF rfl rfl (.inl rfl) (by decide) rfl ?_; clear HF; intro _ HF
  refine sl_op HF rfl rfl (by decide) ?_; intro K hK; have e11 := HF.see 11 rfl; go_wp2_with fail; clear e11 HF; intro _ HF
  refine sl_op HF rfl rfl (by decide) ?_; intro K hK; have e12 := HF.see 12 rfl; go_wp2_with fail; clear e12 HF; intro _ HF
  refine sl_nil (wp_cond_false (HF.at 13 rfl) (wp_skip (sl_then (wp_seq (wp_region_lit ?_)))))
  clear hb
  refine sl_const HF rfl rfl (.inr rfl) (by decide) ?_; clear HF; intro _ HF
  refine sl_nil (wp_seq (wp_region_lit ?_))
  refine sl_const HF rfl rfl (.inr rfl) (by decide) ?_; clear HF; intro _ HF
  refine sl_nil (wp_seq (wp_block (wp_loop (RAllI w l) (fun ac _ => l.length - (intOf (ac.eval (.tmp 6))).toNat) ?_ ?_)))
  · exact ⟨0, [], none, 0, HF.keep [0, 5, 6], ⟨Nat.zero_le _, by rw [pre_nil]; rfl, Nat.le_refl _, World.ownsRow_nil _ _ _ _, Mod.refl _ _⟩⟩
  · clear HF
    rintro ac2 w2 ⟨a, done, A, cp, HF, hst⟩
    have hmu : l.length - (intOf ((ac2.tmps[6]?).getD undef)).toNat = l.length - a := by rw [HF.see 6 rfl]; simp [intOf]
    have HMU := Lib.hid hmu
    have HST := Lib.hid hst
    have hle := hst.le
    have hlen := hst.len
    have hw2 := hst.mod.size
    clear hmu hst
    by_cases ha : a < l.length
    · obtain ⟨c, hc⟩ : ∃ c, l[a]? = some c := ⟨_, List.getElem?_eq_getElem ha⟩
      have hg := str_getE hc (by omega)
      have HC := Lib.hid hc
      have hlt : decide ((a : Int) < l.length) = true := by simp; omega
      have hu := u8_lt c
      clear hc
      refine wp_seq (wp_seq (wp_region_lit ?_))
      refine sl_move HF rfl rfl (.inl rfl) (by decide) rfl ?_; clear HF; intro _ HF
      refine sl_move HF rfl rfl (.inl rfl) (by decide) rfl ?_; clear HF; intro _ HF
      refine sl_op HF rfl rfl (by decide) ?_; intro K hK; have e15 := HF.see 15 rfl; go_wp2_with fail; clear e15 HF; intro _ HF
      refine sl_op HF rfl rfl (by decide) ?_; intro K hK; have e14 := HF.see 14 rfl; have e16 := HF.see 16 rfl; go_wp2_with fail; clear e14 e16 HF; intro _ HF
      refine sl_nil (wp_cond_true (HF.at 17 rfl) (wp_skip (sl_then (wp_block (wp_seq (wp_region_lit ?_))))))
      refine sl_move HF rfl rfl (.inl rfl) (by decide) rfl ?_; clear HF; intro _ HF
      refine sl_move HF rfl rfl (.inl rfl) (by decide) rfl ?_; clear HF; intro _ HF
      refine sl_op HF rfl rfl (by decide) ?_; intro K hK; have e18 := HF.see 18 rfl; have e19 := HF.see 19 rfl; go_wp2_with fail; clear e18 e19 HF; intro _ HF
      refine sl_move HF rfl rfl (.inr rfl) (by decide) rfl ?_; clear HF; intro _ HF
      refine sl_nil (wp_seq ?_)
      have hloop : ∀ (a' : Nat) (done' : List (Tok × Nat)) (A' : Option Addr) (cp' : Nat) (ac' : Act) (w' : World), a < a' → Sl 80 [(0, .string (str l)), (5, .slice A' done'.length cp'), (6, .int .i64 (a' : Nat))] ac' → RaSt w l (.slice A' done'.length cp') a' done' w' → RAllI w l ac' w' ∧ l.length - (intOf (ac'.eval (.tmp 6))).toNat < l.length - (intOf (ac2.eval (.tmp 6))).toNat := by
        intro a' done' A' cp' ac' w' h1 h2 h3
        refine ⟨⟨a', done', A', cp', h2, h3⟩, ?_⟩
        have e9 := h2.see 6 rfl
        simp only [Act.eval_tmp]
        rw [HMU.out, e9]
        simp only [intOf]
        omega
      have HLOOP := Lib.hid hloop
      clear hloop
      refine (rall_blank (c := c) (a := a) (by omega) (HF.keep [0, 5, 6, 7]) (fun hb ac' HF => ?_) (fun hb ac' HF => ?_))
      · dsimp only [Exit.then]
        refine sl_exit ?_
        rw [show (a : Int) + 1 = ((a + 1 : Nat) : Int) by omega] at HF
        exact HLOOP.out _ _ _ _ _ _ (by omega) HF (HST.out.blank HC.out hb)
      have HB := Lib.hid hb
      clear hb
      refine sl_then (wp_seq (wp_seq (wp_region_lit ?_)))
      by_cases h34 : c = 34
      · have e1 : ((c.toNat : Int) == 34) = true := u8_eq_true h34
        have HC' := Lib.hid (show l[a]? = some 34 by rw [HC.out, h34])
        clear h34
        refine sl_move HF rfl rfl (.inl rfl) (by decide) rfl ?_; clear HF; intro _ HF
        refine sl_op HF rfl rfl (by decide) ?_; intro K hK; have e37 := HF.see 37 rfl; go_wp2_with fail; clear e37 HF; intro _ HF
        refine sl_nil (wp_cond_true (HF.at 38 rfl) ?_)
        refine rall_rem hl ha (HF.keep [0, 5, 6]) (fun hno ac' HF => ?_) (fun i h1 hno hx ac' HF => ?_)
        · have HE := Lib.hid (HRE.out a (HST.out.remOpen HC'.out hno))
          dsimp only [Exit.then, Exit.inBlock]
          exact sl_ret3 HF rfl rfl rfl rfl (by rw [HE.out]; exact ⟨rfl, HST.out.mod⟩)
        · dsimp only [Exit.then]
          refine sl_exit ?_
          rw [show (i : Int) + 1 = ((i + 1 : Nat) : Int) by omega] at HF
          exact HLOOP.out _ _ _ _ _ _ (by omega) HF (HST.out.rem HC'.out h1 hno hx)
      have e1 : ((c.toNat : Int) == 34) = false := ne_of_u8 h34
      have HN := Lib.hid h34
      clear h34
      refine sl_move HF rfl rfl (.inl rfl) (by decide) rfl ?_; clear HF; intro _ HF
      refine sl_op HF rfl rfl (by decide) ?_; intro K hK; have e37 := HF.see 37 rfl; go_wp2_with fail; clear e37 HF; intro _ HF
      refine sl_nil (wp_cond_false (HF.at 38 rfl) (wp_skip (sl_then (wp_seq (wp_region_lit ?_)))))
      refine sl_move HF rfl rfl (.inl rfl) (by decide) rfl ?_; clear HF; intro _ HF
      refine sl_move HF rfl rfl (.inl rfl) (by decide) rfl ?_; clear HF; intro _ HF
      refine sl_op HF rfl rfl (by decide) ?_; intro K hK; have e61 := HF.see 61 rfl; have e62 := HF.see 62 rfl; go_wp2_with fail
      refine (rToken_any l a hl ha _).mono ?_
      rintro e w3 ⟨t, z, rfl, hs, hn, hm3⟩
      have HM3 := Lib.hid hm3
      rcases ht : tokL (l.drop a) with _ | ⟨t', k⟩
      · obtain rfl := hn ht
        have HE := Lib.hid (HRE.out a (HST.out.bad HC.out HB.out HN.out ht))
        clear hs hn hm3 ht
        go_wp2_with fail; clear e61 e62 HF; intro _ HF
        simp only [tokV] at HF
        refine sl_move HF rfl rfl (.inl rfl) (by decide) rfl ?_; clear HF; intro _ HF
        refine sl_op HF rfl rfl (by decide) ?_; intro K hK; have e60 := HF.see 60 rfl; go_wp2_with fail; clear e60 HF; intro _ HF
        refine sl_op HF rfl rfl (by decide) ?_; intro K hK; have e60 := HF.see 60 rfl; go_wp2_with fail; clear e60 HF; intro _ HF
        refine sl_op HF rfl rfl (by decide) ?_; intro K hK; go_wp2_with fail; clear HF; intro _ HF
        refine sl_op0 HF rfl rfl ?_; intro K hK; have e9 := HF.see 9 rfl; have e64 := HF.see 64 rfl; go_wp2_with fail; clear e9 e64 HF; intro _ HF
        refine sl_move HF rfl rfl (.inr rfl) (by decide) rfl ?_; clear HF; intro _ HF
        refine sl_nil (wp_seq (wp_seq (wp_region_lit ?_)))
        refine sl_move HF rfl rfl (.inl rfl) (by decide) rfl ?_; clear HF; intro _ HF
        refine sl_op HF rfl rfl (by decide) ?_; intro K hK; have e66 := HF.see 66 rfl; go_wp2_with fail; clear e66 HF; intro _ HF
        refine sl_nil (wp_cond_true (HF.at 67 rfl) (wp_seq (wp_region_lit ?_)))
        refine sl_move HF rfl rfl (.inl rfl) (by decide) rfl ?_; clear HF; intro _ HF
        refine sl_const HF rfl rfl (.inr rfl) (by decide) ?_; clear HF; intro _ HF
        refine sl_const HF rfl rfl (.inr rfl) (by decide) ?_; clear HF; intro _ HF
        refine sl_move HF rfl rfl (.inr rfl) (by decide) rfl ?_; clear HF; intro _ HF
        refine sl_nil (wp_ret ?_)
        dsimp only [Exit.then, Exit.inBlock]
        exact sl_ret3 HF rfl rfl rfl rfl (by rw [HE.out]; exact ⟨rfl, (HST.out.mod.trans HM3.out).alloc _⟩)
      · obtain ⟨rfl, rfl⟩ := hs t' k ht
        have HT := Lib.hid ht
        have hk1 := (tokL_len ht).1
        have hk2 := (tokL_len ht).2.1
        rw [List.length_drop] at hk2
        clear hs hn hm3 ht
        go_wp2_with fail; clear e61 e62 HF; intro _ HF
        simp only [tokV] at HF
        have hz0 : decide (((a + k : Nat) : Int) < 0) = false := by simp; omega
        generalize hz : ((a + k : Nat) : Int) = z at HF hz0
        have HZ := Lib.hid hz
        have HM4 := Lib.hid ((HST.out.mod.trans HM3.out).alloc (.cells #[.int .i64 t.kind, .string (str t.text), .int .i64 t.n, .int .i64 a] 32))
        have hbl : Blk (w3.alloc (.cells #[.int .i64 t.kind, .string (str t.text), .int .i64 t.n, .int .i64 a] 32)) w3.heap.size 32 #[.int .i64 t.kind, .string (str t.text), .int .i64 t.n, .int .i64 a] := Blk.new _ _ _
        have HBL := Lib.hid hbl
        have HO4 := Lib.hid (own_keep (own_keep HST.out.own HM3.out (fun _ _ => id)) ((Mod.refl Nil w3).alloc (.cells #[.int .i64 t.kind, .string (str t.text), .int .i64 t.n, .int .i64 a] 32)) (fun _ _ => id))
        have hw3 := HM3.out.size
        clear hz hbl
        refine sl_move HF rfl rfl (.inl rfl) (by decide) rfl ?_; clear HF; intro _ HF
        refine sl_op HF rfl rfl (by decide) ?_; intro K hK; have e60 := HF.see 60 rfl; go_wp2_with fail; clear e60 HF; intro _ HF
        refine sl_op HF rfl rfl (by decide) ?_; intro K hK; have e60 := HF.see 60 rfl; go_wp2_with fail; clear e60 HF; intro _ HF
        refine sl_op HF rfl rfl (by decide) ?_; intro K hK; go_wp2_with fail; clear HF; intro _ HF
        refine sl_op0 HF rfl rfl ?_; intro K hK; have e9 := HF.see 9 rfl; have e64 := HF.see 64 rfl; go_wp2_with fail; clear e9 e64 HF; intro _ HF
        refine sl_move HF rfl rfl (.inr rfl) (by decide) rfl ?_; clear HF; intro _ HF
        generalize w3.alloc (.cells #[.int .i64 t.kind, .string (str t.text), .int .i64 t.n, .int .i64 a] 32) = W at HM4 HBL HO4 ⊢
        generalize w3.heap.size = g at HBL HF
        refine sl_nil (wp_seq (wp_seq (wp_region_lit ?_)))
        refine sl_move HF rfl rfl (.inl rfl) (by decide) rfl ?_; clear HF; intro _ HF
        refine sl_op HF rfl rfl (by decide) ?_; intro K hK; have e66 := HF.see 66 rfl; go_wp2_with fail; clear e66 HF; intro _ HF
        refine sl_nil (wp_cond_false (HF.at 67 rfl) (wp_skip (sl_then (wp_seq (wp_region_lit ?_)))))
        have c0 := HBL.out.cell 0
        have c1 := HBL.out.cell 1
        have c2 := HBL.out.cell 2
        have c3 := HBL.out.cell 3
        refine sl_move HF rfl rfl (.inl rfl) (by decide) rfl ?_; clear HF; intro _ HF
        refine sl_op HF rfl rfl (by decide) ?_; intro K hK; have e9 := HF.see 9 rfl; go_wp2_with fail; clear e9 HF; intro _ HF
        refine sl_op HF rfl rfl (by decide) ?_; intro K hK; have e70 := HF.see 70 rfl; go_wp2_with fail; clear e70 HF; intro _ HF
        clear c0 c1 c2 c3
        have hws := HM4.out.size
        refine sl_appendn HF rfl rfl (by decide) rfl Tryz.underlying23 HI.out HZ0.out HZ1.out HZ2.out rfl (by decide) rfl (own_keep HO4.out ((Mod.refl Nil W).alloc _) (fun _ _ => id)) rfl (news := tkC (t, a)) rfl (Rd.blk (cs := (tkC (t, a)).toArray) (Blk.new W _ _)) (tkC_one _) (by omega) (by simp only [maxLen]; omega) (by simp; omega) ?_
        intro A' cp' w4 a4 HF hap
        have HAP := Lib.hid hap
        clear hap
        refine sl_move HF rfl rfl (.inr rfl) (by decide) rfl ?_; clear HF; intro _ HF
        refine sl_nil (wp_region_lit ?_)
        refine sl_move HF rfl rfl (.inl rfl) (by decide) rfl ?_; clear HF; intro _ HF
        refine sl_move HF rfl rfl (.inr rfl) (by decide) rfl ?_; clear HF; intro _ HF
        refine wpList_nil ?_
        obtain rfl := HZ.out
        have HF2 := HF.keep [0, 5, 6]
        have hmod : Mod Nil w w4 := (HM4.out.alloc _).trans' (H := Nil) HAP.out.mod (fun _ _ h => h) (fun k hk hv => absurd (HO4.out.lt _ hv).1 (by omega))
        have hst2 : RaSt w l (.slice A' (done ++ [(t, a)]).length cp') (a + k) (done ++ [(t, a)]) w4 := by
          rw [List.length_append, List.length_singleton]
          exact HST.out.tok HC.out HB.out HN.out HT.out HAP.out.own hmod
        dsimp only [Exit.then, Exit.inBlock]
        exact HLOOP.out (a + k) (done ++ [(t, a)]) A' cp' _ _ (by omega) (by rw [List.length_append, List.length_singleton]; exact HF2) hst2
    · have hge : decide ((a : Int) < l.length) = false := by simp; omega
      have HE := Lib.hid (HRO.out _ (HST.out.fin ha))
      refine wp_seq (wp_seq (wp_region_lit ?_))
      refine sl_move HF rfl rfl (.inl rfl) (by decide) rfl ?_; clear HF; intro _ HF
      refine sl_move HF rfl rfl (.inl rfl) (by decide) rfl ?_; clear HF; intro _ HF
      refine sl_op HF rfl rfl (by decide) ?_; intro K hK; have e15 := HF.see 15 rfl; go_wp2_with fail; clear e15 HF; intro _ HF
      refine sl_op HF rfl rfl (by decide) ?_; intro K hK; have e14 := HF.see 14 rfl; have e16 := HF.see 16 rfl; go_wp2_with fail; clear e14 e16 HF; intro _ HF
      refine sl_nil (wp_cond_false (HF.at 17 rfl) (wp_exit ?_))
      dsimp only [Exit.then]
      refine sl_exit (sl_then (wp_seq (wp_region_lit ?_)))
      refine sl_move HF rfl rfl (.inl rfl) (by decide) rfl ?_; clear HF; intro _ HF
      refine sl_move HF rfl rfl (.inl rfl) (by decide) rfl ?_; clear HF; intro _ HF
      refine sl_op HF rfl rfl (by decide) ?_; intro K hK; have e75 := HF.see 75 rfl; go_wp2_with fail; clear e75 HF; intro _ HF
      refine sl_op HF rfl rfl (by decide) ?_; intro K hK; have e76 := HF.see 76 rfl; go_wp2_with fail; clear e76 HF; intro _ HF
      refine sl_op HF rfl rfl (by decide) ?_; intro K hK; have e77 := HF.see 77 rfl; go_wp2_with fail; clear e77 HF; intro _ HF
      refine sl_appendn HF rfl rfl (by decide) rfl Tryz.underlying23 HI.out HZ0.out HZ1.out HZ2.out rfl (by decide) rfl (own_keep HST.out.own ((Mod.refl Nil w2).alloc _) (fun _ _ => id)) rfl (news := tkC (⟨0, [], 0⟩, l.length)) rfl (Rd.blk (cs := (tkC (⟨0, [], 0⟩, l.length)).toArray) (Blk.new w2 _ _)) (tkC_one _) (by omega) (by simp only [maxLen]; omega) (by simp; omega) ?_
      intro A' cp' w4 a4 HF hap
      have HAP := Lib.hid hap
      clear hap
      refine sl_move HF rfl rfl (.inr rfl) (by decide) rfl ?_; clear HF; intro _ HF
      refine sl_const HF rfl rfl (.inr rfl) (by decide) ?_; clear HF; intro _ HF
      refine sl_const HF rfl rfl (.inr rfl) (by decide) ?_; clear HF; intro _ HF
      refine sl_nil (wp_ret ?_)
      have hmod : Mod Nil w w4 := (HST.out.mod.alloc _).trans' (H := Nil) HAP.out.mod (fun _ _ h => h) (fun k hk hv => absurd (HST.out.own.lt _ hv).1 (by omega))
      refine sl_ret3 HF rfl rfl rfl rfl (by
        rw [HE.out]
        refine ⟨⟨_, rfl, ?_⟩, hmod⟩
        rw [tkCells_snoc, List.length_append, List.length_singleton]
        exact HAP.out.own)
end Go.Proofs.YtpjpmlhnhcmacaaGreatDoor
