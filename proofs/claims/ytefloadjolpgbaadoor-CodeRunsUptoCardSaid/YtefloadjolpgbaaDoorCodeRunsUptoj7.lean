/- Parts of the proof of CodeRunsUpto, joined: CodP CodO NmW ScR NmX. -/
import Derived.Test.YtefloadjolpgbaaDoorCodeRunsUptoj6
import Derived.Outline
import Derived.Test.YtefloadjolpgbaaDoorShelf
import Derived.Lib.OthersKept
import Derived.Laws.RangeAny
namespace Go.Proofs.YtefloadjolpgbaaDoor
open Go.RowKit

theorem CodeF.blkv {w : World} {c b : CodeT} {v : CodeV} (h : CodeF w c v) {i : Nat} (hb : c.blocks[i]? = some b) : ∃ (ad : Addr) (x : CodeV), v.A4 = some ad ∧ ad.block < w.heap.size ∧ CodeC w b (codeArr b x).toList ∧
    w.cell? (ad.add (i * 6)) = some (.int .i64 b.args) ∧ w.cell? ⟨(ad.add (i * 6)).block, (ad.add (i * 6)).off + 1, none⟩ = some (.int .i64 b.vars) ∧ w.cell? ⟨(ad.add (i * 6)).block, (ad.add (i * 6)).off + 2, none⟩ = some (.slice x.A2 b.lits.length x.c2) ∧
      w.cell? ⟨(ad.add (i * 6)).block, (ad.add (i * 6)).off + 3, none⟩ = some (.slice x.A3 b.ins.length x.c3) ∧ w.cell? ⟨(ad.add (i * 6)).block, (ad.add (i * 6)).off + 4, none⟩ = some (.slice x.A4 b.blocks.length x.c4) ∧ w.cell? ⟨(ad.add (i * 6)).block, (ad.add (i * 6)).off + 5, none⟩ = some (.string (str b.cls)) := by
  obtain ⟨ad, u0, u1, u2, u3, u4, u5, h1, h2, h3, k0, k1, k2, k3, k4, k5⟩ := h.blk i b hb
  obtain ⟨x, hx, _⟩ := h3.view
  have hl := congrArg Array.toList hx
  simp only [codeArr, List.cons.injEq, and_true] at hl
  obtain ⟨rfl, rfl, rfl, rfl, rfl, rfl⟩ := hl
  exact ⟨ad, x, h1, h2, h3, k0, k1, k2, k3, k4, k5⟩

noncomputable def efBody : Code := (Tryd.f27.body).getD .skip

def EfI (w1 : World) (a b : CodeT) (va vb : CodeV) (n p : Nat) (ac : Act) (w : World) : Prop :=
  ∃ k : Nat, Sl 32 [(0, .slice va.A4 n va.c4), (1, .slice vb.A4 n vb.c4), (2, (.func (.func 28) #[] #[.pointer (some ⟨p, 0, none⟩)])), (15, .slice va.A4 n va.c4), (16, .int .i64 n), (17, .int .i64 (k : Nat))] ac ∧ k ≤ n ∧ a.blocks.take k = b.blocks.take k ∧ Mod Nil w1 w

set_option maxHeartbeats 6400000 in
set_option maxRecDepth 100000 in
theorem eqFunc_any (a b : CodeT) (va vb : CodeV) (p : Nat) (w : World) (hfa : ∀ w', Mod Nil w w' → CodeF w' a va) (hfb : ∀ w', Mod Nil w w' → CodeF w' b vb)
    (hf : ∀ (i : Nat) (x y : CodeT) (w' : World) (cx cy : List Value), a.blocks[i]? = some x → Mod Nil w w' → CodeC w' x cx → CodeC w' y cy → Calls Tryd.prog 28 #[.agg cx.toArray, .agg cy.toArray, .pointer (some ⟨p, 0, none⟩)] w' fun e w'' => e = .returned (.bool (codeEq x y)) ∧ Mod Nil w' w'') :
    Calls Tryd.prog 27 #[.slice va.A4 a.blocks.length va.c4, .slice vb.A4 b.blocks.length vb.c4, (.func (.func 28) #[] #[.pointer (some ⟨p, 0, none⟩)])] w fun e w' => (∃ r, e = .returned (.bool r) ∧ (r = true ↔ a.blocks = b.blocks)) ∧ Mod Nil w w' := by
  have HFA := Lib.hid hfa
  have HFB := Lib.hid hfb
  have HCL := Lib.hid hf
  clear hfa hfb hf
  obtain ⟨n, hn⟩ : ∃ n, n = a.blocks.length := ⟨_, rfl⟩
  obtain ⟨m, hm⟩ : ∃ m, m = b.blocks.length := ⟨_, rfl⟩
  have HN := Lib.hid hn
  have HM := Lib.hid hm
  have hnb : n ≤ 9223372036854775807 := by
    have := (HFA.out w (Mod.refl _ _)).n4
    have := (HFA.out w (Mod.refl _ _)).m4
    omega
  have hmb : m ≤ 9223372036854775807 := by
    have := (HFB.out w (Mod.refl _ _)).n4
    have := (HFB.out w (Mod.refl _ _)).m4
    omega
  have hcap : n ≤ va.c4 := by have := (HFA.out w (Mod.refl _ _)).n4; rw [← hn] at this; exact this
  have hcapb : m ≤ vb.c4 := by have := (HFB.out w (Mod.refl _ _)).n4; rw [← hm] at this; exact this
  rw [← hn, ← hm]
  clear hn hm
  refine sl_enter (n := 32) (fn := Tryd.f27) (c := efBody) Tryd.func27 rfl rfl (by simp) fun ac HF => ?_
  conv => arg 2; whnf
  refine wp_seq (wp_region_lit ?_)
  refine sl_const HF rfl rfl (.inr rfl) (by decide) ?_; clear HF; intro _ HF
  refine sl_nil (wp_seq (wp_seq (wp_region_lit ?_)))
  by_cases hnm : n = m
  · subst hnm
    refine sl_move HF rfl rfl (.inl rfl) (by decide) rfl ?_; clear HF; intro _ HF
    refine sl_op HF rfl rfl (by decide) ?_; intro K hK; have e10 := HF.see 10 rfl; go_wp2_with fail; clear e10 HF; intro _ HF
    refine sl_move HF rfl rfl (.inl rfl) (by decide) rfl ?_; clear HF; intro _ HF
    refine sl_op HF rfl rfl (by decide) ?_; intro K hK; have e12 := HF.see 12 rfl; go_wp2_with fail; clear e12 HF; intro _ HF
    refine sl_op HF rfl rfl (by decide) ?_; intro K hK; have e11 := HF.see 11 rfl; have e13 := HF.see 13 rfl; go_wp2_with fail; clear e11 e13 HF; intro _ HF
    refine sl_nil (wp_cond_false (HF.at 14 rfl) (wp_skip (sl_then (wp_seq (wp_seq (wp_region_lit ?_))))))
    refine sl_move HF rfl rfl (.inl rfl) (by decide) rfl ?_; clear HF; intro _ HF
    refine sl_op HF rfl rfl (by decide) ?_; intro K hK; have e15 := HF.see 15 rfl; go_wp2_with fail; clear e15 HF; intro _ HF
    refine sl_const HF rfl rfl (.inl rfl) (by decide) ?_; clear HF; intro _ HF
    refine sl_nil (wp_block (wp_loop (EfI w a b va vb n p) (fun ac _ => n - (intOf (ac.eval (.tmp 17))).toNat) ?_ ?_))
    · exact ⟨0, HF.keep [0, 1, 2, 15, 16, 17], Nat.zero_le _, rfl, Mod.refl _ _⟩
    · clear HF
      rintro ac2 w2 ⟨k, HF, hk, heq, hmod⟩
      have hmu : n - (intOf ((ac2.tmps[17]?).getD undef)).toNat = n - k := by rw [HF.see 17 rfl]; simp [intOf]
      have HMU := Lib.hid hmu
      have HEQ := Lib.hid heq
      have HMOD := Lib.hid hmod
      clear hmu heq hmod
      by_cases hlt : k < n
      · have hlt' : decide ((k : Int) < n) = true := by simp; omega
        obtain ⟨x, hx⟩ : ∃ x, a.blocks[k]? = some x := ⟨_, List.getElem?_eq_getElem (by rw [← HN.out]; exact hlt)⟩
        obtain ⟨y, hy⟩ : ∃ y, b.blocks[k]? = some y := ⟨_, List.getElem?_eq_getElem (by rw [← HM.out]; exact hlt)⟩
        obtain ⟨ad, vx, hAd, hab, hxc, q0, q1, q2, q3, q4, q5⟩ := (HFA.out w2 HMOD.out).blkv hx
        obtain ⟨bd, vy, hBd, hbb, hyc, p0, p1, p2, p3, p4, p5⟩ := (HFB.out w2 HMOD.out).blkv hy
        rw [hAd, hBd] at HF
        have HAD := Lib.hid hAd
        have HBD := Lib.hid hBd
        have HX := Lib.hid hx
        have HY := Lib.hid hy
        have hmA := (Mod.refl Nil w2).alloc (.cells #[.int .i64 x.args, .int .i64 x.vars, .slice vx.A2 x.lits.length vx.c2, .slice vx.A3 x.ins.length vx.c3, .slice vx.A4 x.blocks.length vx.c4, .string (str x.cls)] 26)
        have hmB := hmA.alloc (.cells #[.int .i64 y.args, .int .i64 y.vars, .slice vy.A2 y.lits.length vy.c2, .slice vy.A3 y.ins.length vy.c3, .slice vy.A4 y.blocks.length vy.c4, .string (str y.cls)] 26)
        have HC := Lib.hid (HCL.out k x y _ _ _ hx (HMOD.out.trans hmB) (hxc.keep hmB) (hyc.keep hmB))
        have HMB := Lib.hid (HMOD.out.trans hmB)
        have HDIFF := Lib.hid (show x ≠ y → a.blocks ≠ b.blocks from fun h he => by
          rw [he] at hx
          rw [hx] at hy
          cases hy
          exact h rfl)
        have hkA : Blk ((w2.alloc (.cells #[.int .i64 x.args, .int .i64 x.vars, .slice vx.A2 x.lits.length vx.c2, .slice vx.A3 x.ins.length vx.c3, .slice vx.A4 x.blocks.length vx.c4, .string (str x.cls)] 26)).alloc (.cells #[.int .i64 y.args, .int .i64 y.vars, .slice vy.A2 y.lits.length vy.c2, .slice vy.A3 y.ins.length vy.c3, .slice vy.A4 y.blocks.length vy.c4, .string (str y.cls)] 26)) w2.heap.size 26 #[.int .i64 x.args, .int .i64 x.vars, .slice vx.A2 x.lits.length vx.c2, .slice vx.A3 x.ins.length vx.c3, .slice vx.A4 x.blocks.length vx.c4, .string (str x.cls)] := (Blk.new _ _ _).alloc _
        have hkB : Blk ((w2.alloc (.cells #[.int .i64 x.args, .int .i64 x.vars, .slice vx.A2 x.lits.length vx.c2, .slice vx.A3 x.ins.length vx.c3, .slice vx.A4 x.blocks.length vx.c4, .string (str x.cls)] 26)).alloc (.cells #[.int .i64 y.args, .int .i64 y.vars, .slice vy.A2 y.lits.length vy.c2, .slice vy.A3 y.ins.length vy.c3, .slice vy.A4 y.blocks.length vy.c4, .string (str y.cls)] 26)) (w2.heap.size + 1) 26 #[.int .i64 y.args, .int .i64 y.vars, .slice vy.A2 y.lits.length vy.c2, .slice vy.A3 y.ins.length vy.c3, .slice vy.A4 y.blocks.length vy.c4, .string (str y.cls)] := by
          have := Blk.new (w2.alloc (.cells #[.int .i64 x.args, .int .i64 x.vars, .slice vx.A2 x.lits.length vx.c2, .slice vx.A3 x.ins.length vx.c3, .slice vx.A4 x.blocks.length vx.c4, .string (str x.cls)] 26)) 26 #[.int .i64 y.args, .int .i64 y.vars, .slice vy.A2 y.lits.length vy.c2, .slice vy.A3 y.ins.length vy.c3, .slice vy.A4 y.blocks.length vy.c4, .string (str y.cls)]
          simpa using this
        have HKA := Lib.hid hkA
        have HKB := Lib.hid hkB
        have r0 := (hmA.cell (p := bd.add (k * 6)) (by rw [block_of_add]; exact hbb) id).trans p0
        have r1 := (hmA.cell (p := ⟨(bd.add (k * 6)).block, (bd.add (k * 6)).off + 1, none⟩) (by rw [block_of_add]; exact hbb) id).trans p1
        have r2 := (hmA.cell (p := ⟨(bd.add (k * 6)).block, (bd.add (k * 6)).off + 2, none⟩) (by rw [block_of_add]; exact hbb) id).trans p2
        have r3 := (hmA.cell (p := ⟨(bd.add (k * 6)).block, (bd.add (k * 6)).off + 3, none⟩) (by rw [block_of_add]; exact hbb) id).trans p3
        have r4 := (hmA.cell (p := ⟨(bd.add (k * 6)).block, (bd.add (k * 6)).off + 4, none⟩) (by rw [block_of_add]; exact hbb) id).trans p4
        have r5 := (hmA.cell (p := ⟨(bd.add (k * 6)).block, (bd.add (k * 6)).off + 5, none⟩) (by rw [block_of_add]; exact hbb) id).trans p5
        clear hx hy hAd hBd hxc hyc hmA hmB hkA hkB p0 p1 p2 p3 p4 p5
        refine wp_seq (wp_region_lit ?_)
        refine sl_op HF rfl rfl (by decide) ?_; intro K hK; have e17 := HF.see 17 rfl; have e16 := HF.see 16 rfl; go_wp2_with fail; clear e17 e16 HF; intro _ HF
        refine sl_nil (wp_seq (wp_cond_true (HF.at 18 rfl) (wp_skip (sl_then (wp_seq (wp_block (wp_seq (wp_region_lit ?_))))))))
        refine sl_move HF rfl rfl (.inl rfl) (by decide) rfl ?_; clear HF; intro _ HF
        refine sl_op HF rfl rfl (by decide) ?_; intro K hK; have e15 := HF.see 15 rfl; have e17 := HF.see 17 rfl; go_wp2_with fail; clear e15 e17 HF; intro _ HF
        refine sl_op HF rfl rfl (by decide) ?_; intro K hK; have e20 := HF.see 20 rfl; go_wp2_with fail; clear e20 HF; intro _ HF
        refine sl_op HF rfl rfl (by decide) ?_; intro K hK; go_wp2_with fail; clear HF; intro _ HF
        refine sl_move HF rfl rfl (.inr rfl) (by decide) rfl ?_; clear HF; intro _ HF
        refine sl_op0 HF rfl rfl ?_; intro K hK; have e8 := HF.see 8 rfl; have e21 := HF.see 21 rfl; go_wp2_with fail; clear e8 e21 HF; intro _ HF
        clear q0 q1 q2 q3 q4 q5
        generalize hWA : w2.alloc (.cells #[.int .i64 x.args, .int .i64 x.vars, .slice vx.A2 x.lits.length vx.c2, .slice vx.A3 x.ins.length vx.c3, .slice vx.A4 x.blocks.length vx.c4, .string (str x.cls)] 26) = wA at HC HMB HKA HKB r0 r1 r2 r3 r4 r5 ⊢
        have hgA : wA.heap.size = w2.heap.size + 1 := by rw [← hWA]; simp
        clear hWA
        refine sl_nil (wp_seq (wp_region_lit ?_))
        rw [← hgA] at HKB
        clear hgA
        refine sl_move HF rfl rfl (.inl rfl) (by decide) rfl ?_; clear HF; intro _ HF
        refine sl_move HF rfl rfl (.inl rfl) (by decide) rfl ?_; clear HF; intro _ HF
        refine sl_op HF rfl rfl (by decide) ?_; intro K hK; have e22 := HF.see 22 rfl; have e23 := HF.see 23 rfl; go_wp2_with fail; clear e22 e23 HF; intro _ HF
        refine sl_op HF rfl rfl (by decide) ?_; intro K hK; have e24 := HF.see 24 rfl; go_wp2_with fail; clear e24 HF; intro _ HF
        refine sl_op HF rfl rfl (by decide) ?_; intro K hK; go_wp2_with fail; clear HF; intro _ HF
        refine sl_op0 HF rfl rfl ?_; intro K hK; have e9 := HF.see 9 rfl; have e25 := HF.see 25 rfl; go_wp2_with fail; clear e9 e25 HF; intro _ HF
        clear r0 r1 r2 r3 r4 r5
        generalize wA.alloc (.cells #[.int .i64 y.args, .int .i64 y.vars, .slice vy.A2 y.lits.length vy.c2, .slice vy.A3 y.ins.length vy.c3, .slice vy.A4 y.blocks.length vy.c4, .string (str y.cls)] 26) = wB at HC HMB HKA HKB ⊢
        generalize wA.heap.size = gb at HF HKB
        generalize w2.heap.size = ga at HF HKA
        obtain ⟨s0, s1, s2, s3, s4, s5⟩ := code_cells HKA.out
        obtain ⟨t0, t1, t2, t3, t4, t5⟩ := code_cells HKB.out
        refine sl_nil (wp_seq (wp_region_lit ?_))
        refine sl_move HF rfl rfl (.inl rfl) (by decide) rfl ?_; clear HF; intro _ HF
        refine sl_op HF rfl rfl (by decide) ?_; intro K hK; have e8 := HF.see 8 rfl; go_wp2_with fail; clear e8 HF; intro _ HF
        refine sl_op HF rfl rfl (by decide) ?_; intro K hK; have e9 := HF.see 9 rfl; go_wp2_with fail; clear e9 HF; intro _ HF
        refine sl_op HF rfl rfl (by decide) ?_; intro K hK; have e26 := HF.see 26 rfl; have e27 := HF.see 27 rfl; have e28 := HF.see 28 rfl; go_wp2_with fail
        refine HC.out.mono ?_
        rintro e w3 ⟨rfl, hm3⟩
        have HM3 := Lib.hid (HMB.out.trans hm3)
        clear hm3 s0 s1 s2 s3 s4 s5 t0 t1 t2 t3 t4 t5
        by_cases hxy : x = y
        · rw [codeEq_true hxy]
          have HXY := Lib.hid hxy
          clear hxy
          go_wp2_with fail; clear e26 e27 e28 HF; intro _ HF
          refine sl_op HF rfl rfl (by decide) ?_; intro K hK; have e29 := HF.see 29 rfl; go_wp2_with fail; clear e29 HF; intro _ HF
          refine sl_nil (wp_cond_false (HF.at 30 rfl) (wp_skip (sl_blk (wp_region_lit ?_))))
          refine sl_op HF rfl rfl (by decide) ?_; intro K hK; have e17 := HF.see 17 rfl; go_wp2_with fail; clear e17 HF; intro _ HF
          refine sl_move HF rfl rfl (.inl rfl) (by decide) rfl ?_; clear HF; intro _ HF
          refine wpList_nil ?_
          refine ⟨⟨k + 1, ?_, hlt, ?_, HM3.out⟩, ?_⟩
          · have := HF.keep [0, 1, 2, 15, 16, 17]
            rw [HAD.out, HBD.out, show ((k + 1 : Nat) : Int) = (k : Int) + 1 by omega]
            exact this
          · rw [List.take_add_one, List.take_add_one, HEQ.out, HX.out, HY.out, HXY.out]
          · have e9 := HF.see 17 rfl
            try simp only [Act.eval_tmp]
            rw [HMU.out, e9]
            simp only [intOf]
            omega
        · rw [codeEq_false hxy]
          have HR := Lib.hid (HDIFF.out hxy)
          clear hxy
          go_wp2_with fail; clear e26 e27 e28 HF; intro _ HF
          refine sl_op HF rfl rfl (by decide) ?_; intro K hK; have e29 := HF.see 29 rfl; go_wp2_with fail; clear e29 HF; intro _ HF
          refine sl_nil (wp_cond_true (HF.at 30 rfl) (wp_seq (wp_region_lit ?_)))
          refine sl_const HF rfl rfl (.inr rfl) (by decide) ?_; clear HF; intro _ HF
          refine sl_nil (wp_ret ?_)
          try dsimp only [Exit.then, Exit.inBlock]
          exact sl_ret1 HF rfl rfl ⟨⟨false, rfl, ⟨(fun h => by cases h), fun h => absurd h HR.out⟩⟩, HM3.out⟩
      · have hge : decide ((k : Int) < n) = false := by simp; omega
        have HR := Lib.hid (show a.blocks = b.blocks by
          have h1 := HEQ.out
          rwa [List.take_of_length_le (by rw [← HN.out]; omega), List.take_of_length_le (by rw [← HM.out]; omega)] at h1)
        refine wp_seq (wp_region_lit ?_)
        refine sl_op HF rfl rfl (by decide) ?_; intro K hK; have e17 := HF.see 17 rfl; have e16 := HF.see 16 rfl; go_wp2_with fail; clear e17 e16 HF; intro _ HF
        refine sl_nil (wp_seq (wp_cond_false (HF.at 18 rfl) (wp_exit ?_)))
        dsimp only [Exit.then]
        refine sl_exit (sl_then (wp_seq (wp_region_lit ?_)))
        refine sl_const HF rfl rfl (.inr rfl) (by decide) ?_; clear HF; intro _ HF
        refine sl_nil (wp_ret ?_)
        exact sl_ret1 HF rfl rfl ⟨⟨true, rfl, ⟨fun _ => HR.out, fun _ => rfl⟩⟩, HMOD.out⟩
  · have HR := Lib.hid (show a.blocks ≠ b.blocks from fun h => hnm (by rw [HN.out, HM.out, h]))
    have g1 : ((n : Int) == (m : Int)) = false := by simp; omega
    have g2 : ((n : Int) != (m : Int)) = true := by rw [bne, g1]; rfl
    clear hnm
    refine sl_move HF rfl rfl (.inl rfl) (by decide) rfl ?_; clear HF; intro _ HF
    refine sl_op HF rfl rfl (by decide) ?_; intro K hK; have e10 := HF.see 10 rfl; go_wp2_with fail; clear e10 HF; intro _ HF
    refine sl_move HF rfl rfl (.inl rfl) (by decide) rfl ?_; clear HF; intro _ HF
    refine sl_op HF rfl rfl (by decide) ?_; intro K hK; have e12 := HF.see 12 rfl; go_wp2_with fail; clear e12 HF; intro _ HF
    refine sl_op HF rfl rfl (by decide) ?_; intro K hK; have e11 := HF.see 11 rfl; have e13 := HF.see 13 rfl; go_wp2_with fail; clear e11 e13 HF; intro _ HF
    refine sl_nil (wp_cond_true (HF.at 14 rfl) (wp_seq (wp_region_lit ?_)))
    refine sl_const HF rfl rfl (.inr rfl) (by decide) ?_; clear HF; intro _ HF
    refine sl_nil (wp_ret ?_)
    try dsimp only [Exit.then]
    exact sl_ret1 HF rfl rfl ⟨⟨false, rfl, ⟨(fun h => by cases h), fun h => absurd h HR.out⟩⟩, Mod.refl _ _⟩
end Go.Proofs.YtefloadjolpgbaaDoor

namespace Go.Proofs.YtefloadjolpgbaaDoor
open Go.RowKit

def ScOk (a : CodeT) : Prop := ∀ (b : CodeT) (w : World) (ca cb : List Value) (d : Nat), a.deep ≤ d → d ≤ 100 → CodeC w a ca → CodeC w b cb → Calls Tryd.prog 17 #[.agg ca.toArray, .agg cb.toArray, .int .i64 d] w fun e w' => e = .returned (.bool (codeEq a b)) ∧ Mod Nil w w'

theorem deep_block {a x : CodeT} {i : Nat} (h : a.blocks[i]? = some x) : 1 + x.deep ≤ a.deep := by
  obtain ⟨_, _, _, _, bs, _⟩ := a
  rw [deep_mk]
  simp only [CodeT.blocks] at h
  have key : ∀ (bs : List CodeT) (i : Nat), bs[i]? = some x → 1 + x.deep ≤ deepL bs := by
    intro bs
    induction bs with
    | nil => intro i h; simp at h
    | cons y bs ih =>
      intro i h
      rw [deepL]
      cases i with
      | zero => cases h; omega
      | succ i => have := ih i h; omega
  exact key bs i h

noncomputable def s1Body : Code := (Tryd.f28.body).getD .skip
set_option maxHeartbeats 3200000 in
set_option maxRecDepth 100000 in
theorem same1_any (x y : CodeT) (w : World) (cx cy : List Value) (p d : Nat) (hp : w.cell? ⟨p, 0, none⟩ = some (.int .i64 d)) (h1 : 1 ≤ d) (h100 : d ≤ 100) (hd : x.deep + 1 ≤ d) (hok : ScOk x) (hcx : CodeC w x cx) (hcy : CodeC w y cy) :
    Calls Tryd.prog 28 #[.agg cx.toArray, .agg cy.toArray, .pointer (some ⟨p, 0, none⟩)] w fun e w' => e = .returned (.bool (codeEq x y)) ∧ Mod Nil w w' := by
  obtain ⟨vx, hvx, _⟩ := hcx.view
  obtain ⟨vy, hvy, _⟩ := hcy.view
  have hm1 := (Mod.refl Nil w).alloc (.cells (codeArr x vx) 26)
  have hm2 := hm1.alloc (.cells (codeArr y vy) 26)
  have hbA : Blk ((w.alloc (.cells (codeArr x vx) 26)).alloc (.cells (codeArr y vy) 26)) w.heap.size 26 (codeArr x vx) := (Blk.new _ _ _).alloc _
  have hbB : Blk ((w.alloc (.cells (codeArr x vx) 26)).alloc (.cells (codeArr y vy) 26)) (w.heap.size + 1) 26 (codeArr y vy) := by
    have := Blk.new (w.alloc (.cells (codeArr x vx) 26)) 26 (codeArr y vy)
    simpa using this
  have HC := Lib.hid (hok y _ cx cy (d - 1) (by omega) (by omega) (hcx.keep hm2) (hcy.keep hm2))
  have hpc := (hm2.cell (World.block_lt_of_cell? w _ hp) id).trans hp
  rw [hvx, hvy] at HC
  rw [show ((d - 1 : Nat) : Int) = (d : Int) - 1 by omega] at HC
  rw [hvx, hvy]
  clear hok hcx hcy hvx hvy hp hm1
  refine sl_enter (n := 15) (fn := Tryd.f28) (c := s1Body) Tryd.func28 rfl rfl (by simp) fun ac HF => ?_
  conv => arg 2; whnf
  unfold codeArr at hbA hbB hm2 HF hpc HC
  refine wp_seq (wp_region_lit ?_)
  refine sl_op HF rfl rfl (by decide) ?_; intro K hK; have e0 := HF.see 0 rfl; go_wp2_with fail; clear e0 HF; intro _ HF
  refine sl_op HF rfl rfl (by decide) ?_; intro K hK; have e1 := HF.see 1 rfl; go_wp2_with fail; clear e1 HF; intro _ HF
  refine sl_const HF rfl rfl (.inr rfl) (by decide) ?_; clear HF; intro _ HF
  generalize (w.alloc (.cells #[.int .i64 x.args, .int .i64 x.vars, .slice vx.A2 x.lits.length vx.c2, .slice vx.A3 x.ins.length vx.c3, .slice vx.A4 x.blocks.length vx.c4, .string (str x.cls)] 26)).alloc (.cells #[.int .i64 y.args, .int .i64 y.vars, .slice vy.A2 y.lits.length vy.c2, .slice vy.A3 y.ins.length vy.c3, .slice vy.A4 y.blocks.length vy.c4, .string (str y.cls)] 26) = w1 at hbA hbB hm2 hpc HC ⊢
  generalize w.heap.size + 1 = gb at hbB HF
  generalize w.heap.size = ga at hbA HF
  obtain ⟨k0, k1, k2, k3, k4, k5⟩ := code_cells hbA
  obtain ⟨l0, l1, l2, l3, l4, l5⟩ := code_cells hbB
  have HM := Lib.hid hm2
  clear hbA hbB hm2
  have hd0 : ((d : Int) == 0) = false := by simp; omega
  refine sl_nil (wp_seq (wp_region_lit ?_))
  refine sl_op HF rfl rfl (by decide) ?_; intro K hK; have e2 := HF.see 2 rfl; go_wp2_with fail; clear e2 HF; intro _ HF
  refine sl_op HF rfl rfl (by decide) ?_; intro K hK; have e6 := HF.see 6 rfl; go_wp2_with fail; clear e6 HF; intro _ HF
  refine sl_move HF rfl rfl (.inl rfl) (by decide) rfl ?_; clear HF; intro _ HF
  refine sl_want HF rfl rfl rfl rfl (by decide) ?_; intro K hK; have e3 := HF.see 3 rfl; go_wp2_with fail; clear e3 HF; intro _ HF
  refine sl_want HF rfl rfl rfl rfl (by decide) ?_; intro K hK; have e4 := HF.see 4 rfl; go_wp2_with fail; clear e4 HF; intro _ HF
  refine sl_want HF rfl rfl rfl rfl (by decide) ?_; intro K hK; have e2 := HF.see 2 rfl; go_wp2_with fail; clear e2 HF; intro _ HF
  refine sl_want HF rfl rfl rfl rfl (by decide) ?_; intro K hK; have e11 := HF.see 11 rfl; go_wp2_with fail; clear e11 HF; intro _ HF
  refine sl_want HF rfl rfl rfl rfl (by decide) ?_; intro K hK; have e9 := HF.see 9 rfl; have e10 := HF.see 10 rfl; have e12 := HF.see 12 rfl; go_wp2_with fail
  refine HC.out.mono ?_
  rintro e w2 ⟨rfl, hm3⟩
  have HM3 := Lib.hid (HM.out.trans hm3)
  clear hm3
  go_wp2_with fail; clear e9 e10 e12 HF; intro _ HF
  refine sl_op HF rfl rfl (by decide) ?_; intro K hK; have e8 := HF.see 8 rfl; have e13 := HF.see 13 rfl; go_wp2_with fail; clear e8 e13 HF; intro _ HF
  refine sl_move HF rfl rfl (.inr rfl) (by decide) rfl ?_; clear HF; intro _ HF
  refine sl_nil (wp_ret ?_)
  exact sl_ret1 HF rfl rfl ⟨rfl, HM3.out⟩

noncomputable def smBody : Code := (Tryd.f17.body).getD .skip
set_option maxHeartbeats 12800000 in
set_option maxRecDepth 100000 in
theorem scSame_ok : ∀ (m : Nat) (a : CodeT), SizeOf.sizeOf a ≤ m → ScOk a := by
  intro m
  induction m with
  | zero => intro a ha; obtain ⟨_, _, _, _, _, _⟩ := a; simp at ha
  | succ m ih =>
    intro a hsz b w ca cb d hda hd100 hca hcb
    obtain ⟨va, hva, hfa⟩ := hca.view
    obtain ⟨vb, hvb, hfb⟩ := hcb.view
    rw [hva, hvb]
    have IH := Lib.hid (show ∀ (i : Nat) (x : CodeT), a.blocks[i]? = some x → ScOk x ∧ x.deep + 1 ≤ d ∧ 1 ≤ d from fun i x hx => ⟨ih x (Nat.le_of_lt_succ (Nat.lt_of_lt_of_le (block_lt hx) hsz)), by have := deep_block hx; omega, by have := deep_block hx; omega⟩)
    have hbA : Blk (((w.alloc (.cells (codeArr a va) 26)).alloc (.cells (codeArr b vb) 26)).alloc (.cells #[.int .i64 d] 3)) w.heap.size 26 (codeArr a va) := ((Blk.new _ _ _).alloc _).alloc _
    have hbB : Blk (((w.alloc (.cells (codeArr a va) 26)).alloc (.cells (codeArr b vb) 26)).alloc (.cells #[.int .i64 d] 3)) (w.heap.size + 1) 26 (codeArr b vb) := by
      have := (Blk.new (w.alloc (.cells (codeArr a va) 26)) 26 (codeArr b vb)).alloc (.cells #[.int .i64 d] 3)
      simpa using this
    have hbD : Blk (((w.alloc (.cells (codeArr a va) 26)).alloc (.cells (codeArr b vb) 26)).alloc (.cells #[.int .i64 d] 3)) (w.heap.size + 1 + 1) 3 #[.int .i64 d] := by
      have := Blk.new ((w.alloc (.cells (codeArr a va) 26)).alloc (.cells (codeArr b vb) 26)) 3 #[.int .i64 d]
      simpa using this
    have hm0 := (((Mod.refl Nil w).alloc (.cells (codeArr a va) 26)).alloc (.cells (codeArr b vb) 26)).alloc (.cells #[.int .i64 d] 3)
    have HFA0 := Lib.hid hfa
    have HFB0 := Lib.hid hfb
    clear ih hsz hca hcb hva hvb hfa hfb hda
    refine sl_enter (n := 48) (fn := Tryd.f17) (c := smBody) Tryd.func17 rfl rfl (by simp) fun ac HF => ?_
    conv => arg 2; whnf
    unfold codeArr at hbA hbB hbD hm0 HF
    refine wp_seq (wp_region_lit ?_)
    refine sl_op HF rfl rfl (by decide) ?_; intro K hK; have e0 := HF.see 0 rfl; go_wp2_with fail; clear e0 HF; intro _ HF
    refine sl_op HF rfl rfl (by decide) ?_; intro K hK; have e1 := HF.see 1 rfl; go_wp2_with fail; clear e1 HF; intro _ HF
    refine sl_op HF rfl rfl (by decide) ?_; intro K hK; have e2 := HF.see 2 rfl; go_wp2_with fail; clear e2 HF; intro _ HF
    refine sl_const HF rfl rfl (.inr rfl) (by decide) ?_; clear HF; intro _ HF
    generalize hW : ((w.alloc (.cells #[.int .i64 a.args, .int .i64 a.vars, .slice va.A2 a.lits.length va.c2, .slice va.A3 a.ins.length va.c3, .slice va.A4 a.blocks.length va.c4, .string (str a.cls)] 26)).alloc (.cells #[.int .i64 b.args, .int .i64 b.vars, .slice vb.A2 b.lits.length vb.c2, .slice vb.A3 b.ins.length vb.c3, .slice vb.A4 b.blocks.length vb.c4, .string (str b.cls)] 26)).alloc (.cells #[.int .i64 d] 3) = w1 at hbA hbB hbD hm0 ⊢
    generalize w.heap.size + 1 + 1 = gd at hbD HF
    generalize w.heap.size + 1 = gb at hbB HF
    generalize w.heap.size = ga at hbA HF
    have HA := Lib.hid (show Blk w1 ga 26 (codeArr a va) from hbA)
    have HB := Lib.hid (show Blk w1 gb 26 (codeArr b vb) from hbB)
    have HD := Lib.hid hbD
    have HM0 := Lib.hid hm0
    have HFA := Lib.hid (show ∀ w', Mod Nil w1 w' → CodeF w' a va from fun w' h => HFA0.out w' (HM0.out.trans h))
    have HFB := Lib.hid (show ∀ w', Mod Nil w1 w' → CodeF w' b vb from fun w' h => HFB0.out w' (HM0.out.trans h))
    obtain ⟨k0, k1, k2, k3, k4, k5⟩ := code_cells hbA
    obtain ⟨l0, l1, l2, l3, l4, l5⟩ := code_cells hbB
    clear hbA hbB hbD hm0 hW HFA0 HFB0
    refine sl_nil (wp_seq (wp_region_lit ?_))
    by_cases e0 : ¬ (a.args = b.args)
    · have g1 : (a.args == b.args) = false := by simp [e0]
      have HR := Lib.hid (codeEq_false (a := a) (b := b) (fun h => e0 (by rw [h])))
      clear e0
      refine sl_op HF rfl rfl (by decide) ?_; intro K hK; have e3 := HF.see 3 rfl; go_wp2_with fail; clear e3 HF; intro _ HF
      refine sl_op HF rfl rfl (by decide) ?_; intro K hK; have e7 := HF.see 7 rfl; go_wp2_with fail; clear e7 HF; intro _ HF
      refine sl_op HF rfl rfl (by decide) ?_; intro K hK; have e4 := HF.see 4 rfl; go_wp2_with fail; clear e4 HF; intro _ HF
      refine sl_op HF rfl rfl (by decide) ?_; intro K hK; have e9 := HF.see 9 rfl; go_wp2_with fail; clear e9 HF; intro _ HF
      refine sl_op HF rfl rfl (by decide) ?_; intro K hK; have e8 := HF.see 8 rfl; have e10 := HF.see 10 rfl; go_wp2_with fail; clear e8 e10 HF; intro _ HF
      refine sl_move HF rfl rfl (.inl rfl) (by decide) rfl ?_; clear HF; intro _ HF
      refine sl_skip HF rfl rfl rfl rfl (by decide) ?_; clear HF; intro _ HF
      refine sl_skip HF rfl rfl rfl rfl (by decide) ?_; clear HF; intro _ HF
      refine sl_skip HF rfl rfl rfl rfl (by decide) ?_; clear HF; intro _ HF
      refine sl_skip HF rfl rfl rfl rfl (by decide) ?_; clear HF; intro _ HF
      refine sl_skip HF rfl rfl rfl rfl (by decide) ?_; clear HF; intro _ HF
      refine sl_op HF rfl rfl (by decide) ?_; intro K hK; have e12 := HF.see 12 rfl; have e17 := HF.see 17 rfl; go_wp2_with fail; clear e12 e17 HF; intro _ HF
      refine sl_move HF rfl rfl (.inl rfl) (by decide) rfl ?_; clear HF; intro _ HF
      refine sl_skip HF rfl rfl rfl rfl (by decide) ?_; clear HF; intro _ HF
      refine sl_skip HF rfl rfl rfl rfl (by decide) ?_; clear HF; intro _ HF
      refine sl_skip HF rfl rfl rfl rfl (by decide) ?_; clear HF; intro _ HF
      refine sl_skip HF rfl rfl rfl rfl (by decide) ?_; clear HF; intro _ HF
      refine sl_skip HF rfl rfl rfl rfl (by decide) ?_; clear HF; intro _ HF
      refine sl_op HF rfl rfl (by decide) ?_; intro K hK; have e19 := HF.see 19 rfl; have e24 := HF.see 24 rfl; go_wp2_with fail; clear e19 e24 HF; intro _ HF
      refine sl_move HF rfl rfl (.inl rfl) (by decide) rfl ?_; clear HF; intro _ HF
      refine sl_skip HF rfl rfl rfl rfl (by decide) ?_; clear HF; intro _ HF
      refine sl_skip HF rfl rfl rfl rfl (by decide) ?_; clear HF; intro _ HF
      refine sl_skip HF rfl rfl rfl rfl (by decide) ?_; clear HF; intro _ HF
      refine sl_skip HF rfl rfl rfl rfl (by decide) ?_; clear HF; intro _ HF
      refine sl_skip HF rfl rfl rfl rfl (by decide) ?_; clear HF; intro _ HF
      refine sl_op HF rfl rfl (by decide) ?_; intro K hK; have e26 := HF.see 26 rfl; have e31 := HF.see 31 rfl; go_wp2_with fail; clear e26 e31 HF; intro _ HF
      refine sl_move HF rfl rfl (.inl rfl) (by decide) rfl ?_; clear HF; intro _ HF
      refine sl_skip HF rfl rfl rfl rfl (by decide) ?_; clear HF; intro _ HF
      refine sl_skip HF rfl rfl rfl rfl (by decide) ?_; clear HF; intro _ HF
      refine sl_skip HF rfl rfl rfl rfl (by decide) ?_; clear HF; intro _ HF
      refine sl_skip HF rfl rfl rfl rfl (by decide) ?_; clear HF; intro _ HF
      refine sl_skip HF rfl rfl rfl rfl (by decide) ?_; clear HF; intro _ HF
      refine sl_op HF rfl rfl (by decide) ?_; intro K hK; have e33 := HF.see 33 rfl; have e38 := HF.see 38 rfl; go_wp2_with fail; clear e33 e38 HF; intro _ HF
      refine sl_move HF rfl rfl (.inl rfl) (by decide) rfl ?_; clear HF; intro _ HF
      refine sl_skip HF rfl rfl rfl rfl (by decide) ?_; clear HF; intro _ HF
      refine sl_skip HF rfl rfl rfl rfl (by decide) ?_; clear HF; intro _ HF
      refine sl_skip HF rfl rfl rfl rfl (by decide) ?_; clear HF; intro _ HF
      refine sl_skip HF rfl rfl rfl rfl (by decide) ?_; clear HF; intro _ HF
      refine sl_skip HF rfl rfl rfl rfl (by decide) ?_; clear HF; intro _ HF
      refine sl_skip HF rfl rfl rfl rfl (by decide) ?_; clear HF; intro _ HF
      refine sl_op HF rfl rfl (by decide) ?_; intro K hK; have e40 := HF.see 40 rfl; have e46 := HF.see 46 rfl; go_wp2_with fail; clear e40 e46 HF; intro _ HF
      refine sl_move HF rfl rfl (.inr rfl) (by decide) rfl ?_; clear HF; intro _ HF
      refine sl_nil (wp_ret ?_)
      exact sl_ret1 HF rfl rfl ⟨by rw [HR.out], HM0.out⟩
    replace e0 := Decidable.not_not.1 e0
    rw [← e0] at l0
    have E0 := Lib.hid e0
    clear e0
    by_cases e1 : ¬ (a.vars = b.vars)
    · have g1 : (a.vars == b.vars) = false := by simp [e1]
      have HR := Lib.hid (codeEq_false (a := a) (b := b) (fun h => e1 (by rw [h])))
      clear e1
      refine sl_op HF rfl rfl (by decide) ?_; intro K hK; have e3 := HF.see 3 rfl; go_wp2_with fail; clear e3 HF; intro _ HF
      refine sl_op HF rfl rfl (by decide) ?_; intro K hK; have e7 := HF.see 7 rfl; go_wp2_with fail; clear e7 HF; intro _ HF
      refine sl_op HF rfl rfl (by decide) ?_; intro K hK; have e4 := HF.see 4 rfl; go_wp2_with fail; clear e4 HF; intro _ HF
      refine sl_op HF rfl rfl (by decide) ?_; intro K hK; have e9 := HF.see 9 rfl; go_wp2_with fail; clear e9 HF; intro _ HF
      refine sl_op HF rfl rfl (by decide) ?_; intro K hK; have e8 := HF.see 8 rfl; have e10 := HF.see 10 rfl; go_wp2_with fail; clear e8 e10 HF; intro _ HF
      refine sl_move HF rfl rfl (.inl rfl) (by decide) rfl ?_; clear HF; intro _ HF
      refine sl_want HF rfl rfl rfl rfl (by decide) ?_; intro K hK; have e3 := HF.see 3 rfl; go_wp2_with fail; clear e3 HF; intro _ HF
      refine sl_want HF rfl rfl rfl rfl (by decide) ?_; intro K hK; have e13 := HF.see 13 rfl; go_wp2_with fail; clear e13 HF; intro _ HF
      refine sl_want HF rfl rfl rfl rfl (by decide) ?_; intro K hK; have e4 := HF.see 4 rfl; go_wp2_with fail; clear e4 HF; intro _ HF
      refine sl_want HF rfl rfl rfl rfl (by decide) ?_; intro K hK; have e15 := HF.see 15 rfl; go_wp2_with fail; clear e15 HF; intro _ HF
      refine sl_want HF rfl rfl rfl rfl (by decide) ?_; intro K hK; have e14 := HF.see 14 rfl; have e16 := HF.see 16 rfl; go_wp2_with fail; clear e14 e16 HF; intro _ HF
      refine sl_op HF rfl rfl (by decide) ?_; intro K hK; have e12 := HF.see 12 rfl; have e17 := HF.see 17 rfl; go_wp2_with fail; clear e12 e17 HF; intro _ HF
      refine sl_move HF rfl rfl (.inl rfl) (by decide) rfl ?_; clear HF; intro _ HF
      refine sl_skip HF rfl rfl rfl rfl (by decide) ?_; clear HF; intro _ HF
      refine sl_skip HF rfl rfl rfl rfl (by decide) ?_; clear HF; intro _ HF
      refine sl_skip HF rfl rfl rfl rfl (by decide) ?_; clear HF; intro _ HF
      refine sl_skip HF rfl rfl rfl rfl (by decide) ?_; clear HF; intro _ HF
      refine sl_skip HF rfl rfl rfl rfl (by decide) ?_; clear HF; intro _ HF
      refine sl_op HF rfl rfl (by decide) ?_; intro K hK; have e19 := HF.see 19 rfl; have e24 := HF.see 24 rfl; go_wp2_with fail; clear e19 e24 HF; intro _ HF
      refine sl_move HF rfl rfl (.inl rfl) (by decide) rfl ?_; clear HF; intro _ HF
      refine sl_skip HF rfl rfl rfl rfl (by decide) ?_; clear HF; intro _ HF
      refine sl_skip HF rfl rfl rfl rfl (by decide) ?_; clear HF; intro _ HF
      refine sl_skip HF rfl rfl rfl rfl (by decide) ?_; clear HF; intro _ HF
      refine sl_skip HF rfl rfl rfl rfl (by decide) ?_; clear HF; intro _ HF
      refine sl_skip HF rfl rfl rfl rfl (by decide) ?_; clear HF; intro _ HF
      refine sl_op HF rfl rfl (by decide) ?_; intro K hK; have e26 := HF.see 26 rfl; have e31 := HF.see 31 rfl; go_wp2_with fail; clear e26 e31 HF; intro _ HF
      refine sl_move HF rfl rfl (.inl rfl) (by decide) rfl ?_; clear HF; intro _ HF
      refine sl_skip HF rfl rfl rfl rfl (by decide) ?_; clear HF; intro _ HF
      refine sl_skip HF rfl rfl rfl rfl (by decide) ?_; clear HF; intro _ HF
      refine sl_skip HF rfl rfl rfl rfl (by decide) ?_; clear HF; intro _ HF
      refine sl_skip HF rfl rfl rfl rfl (by decide) ?_; clear HF; intro _ HF
      refine sl_skip HF rfl rfl rfl rfl (by decide) ?_; clear HF; intro _ HF
      refine sl_op HF rfl rfl (by decide) ?_; intro K hK; have e33 := HF.see 33 rfl; have e38 := HF.see 38 rfl; go_wp2_with fail; clear e33 e38 HF; intro _ HF
      refine sl_move HF rfl rfl (.inl rfl) (by decide) rfl ?_; clear HF; intro _ HF
      refine sl_skip HF rfl rfl rfl rfl (by decide) ?_; clear HF; intro _ HF
      refine sl_skip HF rfl rfl rfl rfl (by decide) ?_; clear HF; intro _ HF
      refine sl_skip HF rfl rfl rfl rfl (by decide) ?_; clear HF; intro _ HF
      refine sl_skip HF rfl rfl rfl rfl (by decide) ?_; clear HF; intro _ HF
      refine sl_skip HF rfl rfl rfl rfl (by decide) ?_; clear HF; intro _ HF
      refine sl_skip HF rfl rfl rfl rfl (by decide) ?_; clear HF; intro _ HF
      refine sl_op HF rfl rfl (by decide) ?_; intro K hK; have e40 := HF.see 40 rfl; have e46 := HF.see 46 rfl; go_wp2_with fail; clear e40 e46 HF; intro _ HF
      refine sl_move HF rfl rfl (.inr rfl) (by decide) rfl ?_; clear HF; intro _ HF
      refine sl_nil (wp_ret ?_)
      exact sl_ret1 HF rfl rfl ⟨by rw [HR.out], HM0.out⟩
    replace e1 := Decidable.not_not.1 e1
    rw [← e1] at l1
    have E1 := Lib.hid e1
    clear e1
    by_cases e5 : ¬ (a.cls = b.cls)
    · have g1 : ((str a.cls).toList == (str b.cls).toList) = false := by rw [cstr_toList, cstr_toList]; simp [e5]
      have HR := Lib.hid (codeEq_false (a := a) (b := b) (fun h => e5 (by rw [h])))
      clear e5
      refine sl_op HF rfl rfl (by decide) ?_; intro K hK; have e3 := HF.see 3 rfl; go_wp2_with fail; clear e3 HF; intro _ HF
      refine sl_op HF rfl rfl (by decide) ?_; intro K hK; have e7 := HF.see 7 rfl; go_wp2_with fail; clear e7 HF; intro _ HF
      refine sl_op HF rfl rfl (by decide) ?_; intro K hK; have e4 := HF.see 4 rfl; go_wp2_with fail; clear e4 HF; intro _ HF
      refine sl_op HF rfl rfl (by decide) ?_; intro K hK; have e9 := HF.see 9 rfl; go_wp2_with fail; clear e9 HF; intro _ HF
      refine sl_op HF rfl rfl (by decide) ?_; intro K hK; have e8 := HF.see 8 rfl; have e10 := HF.see 10 rfl; go_wp2_with fail; clear e8 e10 HF; intro _ HF
      refine sl_move HF rfl rfl (.inl rfl) (by decide) rfl ?_; clear HF; intro _ HF
      refine sl_want HF rfl rfl rfl rfl (by decide) ?_; intro K hK; have e3 := HF.see 3 rfl; go_wp2_with fail; clear e3 HF; intro _ HF
      refine sl_want HF rfl rfl rfl rfl (by decide) ?_; intro K hK; have e13 := HF.see 13 rfl; go_wp2_with fail; clear e13 HF; intro _ HF
      refine sl_want HF rfl rfl rfl rfl (by decide) ?_; intro K hK; have e4 := HF.see 4 rfl; go_wp2_with fail; clear e4 HF; intro _ HF
      refine sl_want HF rfl rfl rfl rfl (by decide) ?_; intro K hK; have e15 := HF.see 15 rfl; go_wp2_with fail; clear e15 HF; intro _ HF
      refine sl_want HF rfl rfl rfl rfl (by decide) ?_; intro K hK; have e14 := HF.see 14 rfl; have e16 := HF.see 16 rfl; go_wp2_with fail; clear e14 e16 HF; intro _ HF
      refine sl_op HF rfl rfl (by decide) ?_; intro K hK; have e12 := HF.see 12 rfl; have e17 := HF.see 17 rfl; go_wp2_with fail; clear e12 e17 HF; intro _ HF
      refine sl_move HF rfl rfl (.inl rfl) (by decide) rfl ?_; clear HF; intro _ HF
      refine sl_want HF rfl rfl rfl rfl (by decide) ?_; intro K hK; have e3 := HF.see 3 rfl; go_wp2_with fail; clear e3 HF; intro _ HF
      refine sl_want HF rfl rfl rfl rfl (by decide) ?_; intro K hK; have e20 := HF.see 20 rfl; go_wp2_with fail; clear e20 HF; intro _ HF
      refine sl_want HF rfl rfl rfl rfl (by decide) ?_; intro K hK; have e4 := HF.see 4 rfl; go_wp2_with fail; clear e4 HF; intro _ HF
      refine sl_want HF rfl rfl rfl rfl (by decide) ?_; intro K hK; have e22 := HF.see 22 rfl; go_wp2_with fail; clear e22 HF; intro _ HF
      refine sl_want HF rfl rfl rfl rfl (by decide) ?_; intro K hK; have e21 := HF.see 21 rfl; have e23 := HF.see 23 rfl; go_wp2_with fail; clear e21 e23 HF; intro _ HF
      refine sl_op HF rfl rfl (by decide) ?_; intro K hK; have e19 := HF.see 19 rfl; have e24 := HF.see 24 rfl; go_wp2_with fail; clear e19 e24 HF; intro _ HF
      refine sl_move HF rfl rfl (.inl rfl) (by decide) rfl ?_; clear HF; intro _ HF
      refine sl_skip HF rfl rfl rfl rfl (by decide) ?_; clear HF; intro _ HF
      refine sl_skip HF rfl rfl rfl rfl (by decide) ?_; clear HF; intro _ HF
      refine sl_skip HF rfl rfl rfl rfl (by decide) ?_; clear HF; intro _ HF
      refine sl_skip HF rfl rfl rfl rfl (by decide) ?_; clear HF; intro _ HF
      refine sl_skip HF rfl rfl rfl rfl (by decide) ?_; clear HF; intro _ HF
      refine sl_op HF rfl rfl (by decide) ?_; intro K hK; have e26 := HF.see 26 rfl; have e31 := HF.see 31 rfl; go_wp2_with fail; clear e26 e31 HF; intro _ HF
      refine sl_move HF rfl rfl (.inl rfl) (by decide) rfl ?_; clear HF; intro _ HF
      refine sl_skip HF rfl rfl rfl rfl (by decide) ?_; clear HF; intro _ HF
      refine sl_skip HF rfl rfl rfl rfl (by decide) ?_; clear HF; intro _ HF
      refine sl_skip HF rfl rfl rfl rfl (by decide) ?_; clear HF; intro _ HF
      refine sl_skip HF rfl rfl rfl rfl (by decide) ?_; clear HF; intro _ HF
      refine sl_skip HF rfl rfl rfl rfl (by decide) ?_; clear HF; intro _ HF
      refine sl_op HF rfl rfl (by decide) ?_; intro K hK; have e33 := HF.see 33 rfl; have e38 := HF.see 38 rfl; go_wp2_with fail; clear e33 e38 HF; intro _ HF
      refine sl_move HF rfl rfl (.inl rfl) (by decide) rfl ?_; clear HF; intro _ HF
      refine sl_skip HF rfl rfl rfl rfl (by decide) ?_; clear HF; intro _ HF
      refine sl_skip HF rfl rfl rfl rfl (by decide) ?_; clear HF; intro _ HF
      refine sl_skip HF rfl rfl rfl rfl (by decide) ?_; clear HF; intro _ HF
      refine sl_skip HF rfl rfl rfl rfl (by decide) ?_; clear HF; intro _ HF
      refine sl_skip HF rfl rfl rfl rfl (by decide) ?_; clear HF; intro _ HF
      refine sl_skip HF rfl rfl rfl rfl (by decide) ?_; clear HF; intro _ HF
      refine sl_op HF rfl rfl (by decide) ?_; intro K hK; have e40 := HF.see 40 rfl; have e46 := HF.see 46 rfl; go_wp2_with fail; clear e40 e46 HF; intro _ HF
      refine sl_move HF rfl rfl (.inr rfl) (by decide) rfl ?_; clear HF; intro _ HF
      refine sl_nil (wp_ret ?_)
      exact sl_ret1 HF rfl rfl ⟨by rw [HR.out], HM0.out⟩
    replace e5 := Decidable.not_not.1 e5
    rw [← e5] at l5
    have gs : ((str a.cls).toList == (str a.cls).toList) = true := by simp
    have E5 := Lib.hid e5
    clear e5
    have HEL := Lib.hid (eqLit_any va.A2 vb.A2 a.lits.length b.lits.length va.c2 vb.c2 a.lits b.lits w1 rfl rfl (Nat.le_trans (HFA.out w1 (Mod.refl _ _)).n2 (HFA.out w1 (Mod.refl _ _)).m2) (Nat.le_trans (HFB.out w1 (Mod.refl _ _)).n2 (HFB.out w1 (Mod.refl _ _)).m2) (HFA.out w1 (Mod.refl _ _)).r2 (HFB.out w1 (Mod.refl _ _)).r2)
    refine sl_op HF rfl rfl (by decide) ?_; intro K hK; have e3 := HF.see 3 rfl; go_wp2_with fail; clear e3 HF; intro _ HF
    refine sl_op HF rfl rfl (by decide) ?_; intro K hK; have e7 := HF.see 7 rfl; go_wp2_with fail; clear e7 HF; intro _ HF
    refine sl_op HF rfl rfl (by decide) ?_; intro K hK; have e4 := HF.see 4 rfl; go_wp2_with fail; clear e4 HF; intro _ HF
    refine sl_op HF rfl rfl (by decide) ?_; intro K hK; have e9 := HF.see 9 rfl; go_wp2_with fail; clear e9 HF; intro _ HF
    refine sl_op HF rfl rfl (by decide) ?_; intro K hK; have e8 := HF.see 8 rfl; have e10 := HF.see 10 rfl; go_wp2_with fail; clear e8 e10 HF; intro _ HF
    refine sl_move HF rfl rfl (.inl rfl) (by decide) rfl ?_; clear HF; intro _ HF
    refine sl_want HF rfl rfl rfl rfl (by decide) ?_; intro K hK; have e3 := HF.see 3 rfl; go_wp2_with fail; clear e3 HF; intro _ HF
    refine sl_want HF rfl rfl rfl rfl (by decide) ?_; intro K hK; have e13 := HF.see 13 rfl; go_wp2_with fail; clear e13 HF; intro _ HF
    refine sl_want HF rfl rfl rfl rfl (by decide) ?_; intro K hK; have e4 := HF.see 4 rfl; go_wp2_with fail; clear e4 HF; intro _ HF
    refine sl_want HF rfl rfl rfl rfl (by decide) ?_; intro K hK; have e15 := HF.see 15 rfl; go_wp2_with fail; clear e15 HF; intro _ HF
    refine sl_want HF rfl rfl rfl rfl (by decide) ?_; intro K hK; have e14 := HF.see 14 rfl; have e16 := HF.see 16 rfl; go_wp2_with fail; clear e14 e16 HF; intro _ HF
    refine sl_op HF rfl rfl (by decide) ?_; intro K hK; have e12 := HF.see 12 rfl; have e17 := HF.see 17 rfl; go_wp2_with fail; clear e12 e17 HF; intro _ HF
    refine sl_move HF rfl rfl (.inl rfl) (by decide) rfl ?_; clear HF; intro _ HF
    refine sl_want HF rfl rfl rfl rfl (by decide) ?_; intro K hK; have e3 := HF.see 3 rfl; go_wp2_with fail; clear e3 HF; intro _ HF
    refine sl_want HF rfl rfl rfl rfl (by decide) ?_; intro K hK; have e20 := HF.see 20 rfl; go_wp2_with fail; clear e20 HF; intro _ HF
    refine sl_want HF rfl rfl rfl rfl (by decide) ?_; intro K hK; have e4 := HF.see 4 rfl; go_wp2_with fail; clear e4 HF; intro _ HF
    refine sl_want HF rfl rfl rfl rfl (by decide) ?_; intro K hK; have e22 := HF.see 22 rfl; go_wp2_with fail; clear e22 HF; intro _ HF
    refine sl_want HF rfl rfl rfl rfl (by decide) ?_; intro K hK; have e21 := HF.see 21 rfl; have e23 := HF.see 23 rfl; go_wp2_with fail; clear e21 e23 HF; intro _ HF
    refine sl_op HF rfl rfl (by decide) ?_; intro K hK; have e19 := HF.see 19 rfl; have e24 := HF.see 24 rfl; go_wp2_with fail; clear e19 e24 HF; intro _ HF
    refine sl_move HF rfl rfl (.inl rfl) (by decide) rfl ?_; clear HF; intro _ HF
    refine sl_want HF rfl rfl rfl rfl (by decide) ?_; intro K hK; have e3 := HF.see 3 rfl; go_wp2_with fail; clear e3 HF; intro _ HF
    refine sl_want HF rfl rfl rfl rfl (by decide) ?_; intro K hK; have e27 := HF.see 27 rfl; go_wp2_with fail; clear e27 HF; intro _ HF
    refine sl_want HF rfl rfl rfl rfl (by decide) ?_; intro K hK; have e4 := HF.see 4 rfl; go_wp2_with fail; clear e4 HF; intro _ HF
    refine sl_want HF rfl rfl rfl rfl (by decide) ?_; intro K hK; have e29 := HF.see 29 rfl; go_wp2_with fail; clear e29 HF; intro _ HF
    refine sl_want HF rfl rfl rfl rfl (by decide) ?_; intro K hK; have e28 := HF.see 28 rfl; have e30 := HF.see 30 rfl; go_wp2_with fail
    refine HEL.out.mono ?_
    rintro e w2 ⟨rfl, hm2⟩
    have HM2 := Lib.hid hm2
    clear hm2 k0 k1 k2 k3 k4 k5 l0 l1 l2 l3 l4 l5 HEL
    obtain ⟨k0, k1, k2, k3, k4, k5⟩ := code_boxed (HA.out.keep HM2.out id)
    obtain ⟨l0, l1, l2, l3, l4, l5⟩ := code_boxed (HB.out.keep HM2.out id)
    by_cases e2 : ¬ (a.lits = b.lits)
    · rw [decide_eq_false e2]
      have HR := Lib.hid (codeEq_false (a := a) (b := b) (fun h => e2 (by rw [h])))
      clear e2
      go_wp2_with fail; clear e28 e30 HF; intro _ HF
      refine sl_op HF rfl rfl (by decide) ?_; intro K hK; have e26 := HF.see 26 rfl; have e31 := HF.see 31 rfl; go_wp2_with fail; clear e26 e31 HF; intro _ HF
      refine sl_move HF rfl rfl (.inl rfl) (by decide) rfl ?_; clear HF; intro _ HF
      refine sl_skip HF rfl rfl rfl rfl (by decide) ?_; clear HF; intro _ HF
      refine sl_skip HF rfl rfl rfl rfl (by decide) ?_; clear HF; intro _ HF
      refine sl_skip HF rfl rfl rfl rfl (by decide) ?_; clear HF; intro _ HF
      refine sl_skip HF rfl rfl rfl rfl (by decide) ?_; clear HF; intro _ HF
      refine sl_skip HF rfl rfl rfl rfl (by decide) ?_; clear HF; intro _ HF
      refine sl_op HF rfl rfl (by decide) ?_; intro K hK; have e33 := HF.see 33 rfl; have e38 := HF.see 38 rfl; go_wp2_with fail; clear e33 e38 HF; intro _ HF
      refine sl_move HF rfl rfl (.inl rfl) (by decide) rfl ?_; clear HF; intro _ HF
      refine sl_skip HF rfl rfl rfl rfl (by decide) ?_; clear HF; intro _ HF
      refine sl_skip HF rfl rfl rfl rfl (by decide) ?_; clear HF; intro _ HF
      refine sl_skip HF rfl rfl rfl rfl (by decide) ?_; clear HF; intro _ HF
      refine sl_skip HF rfl rfl rfl rfl (by decide) ?_; clear HF; intro _ HF
      refine sl_skip HF rfl rfl rfl rfl (by decide) ?_; clear HF; intro _ HF
      refine sl_skip HF rfl rfl rfl rfl (by decide) ?_; clear HF; intro _ HF
      refine sl_op HF rfl rfl (by decide) ?_; intro K hK; have e40 := HF.see 40 rfl; have e46 := HF.see 46 rfl; go_wp2_with fail; clear e40 e46 HF; intro _ HF
      refine sl_move HF rfl rfl (.inr rfl) (by decide) rfl ?_; clear HF; intro _ HF
      refine sl_nil (wp_ret ?_)
      exact sl_ret1 HF rfl rfl ⟨by rw [HR.out], HM0.out.trans HM2.out⟩
    replace e2 := Decidable.not_not.1 e2
    rw [decide_eq_true e2]
    have E2 := Lib.hid e2
    clear e2
    go_wp2_with fail; clear e28 e30 HF; intro _ HF
    have HEI := Lib.hid (eqIns_any va.A3 vb.A3 a.ins.length b.ins.length va.c3 vb.c3 a.ins b.ins w2 rfl rfl (Nat.le_trans (HFA.out w1 (Mod.refl _ _)).n3 (HFA.out w1 (Mod.refl _ _)).m3) (Nat.le_trans (HFB.out w1 (Mod.refl _ _)).n3 (HFB.out w1 (Mod.refl _ _)).m3) (HFA.out w2 HM2.out).r3 (HFB.out w2 HM2.out).r3)
    refine sl_op HF rfl rfl (by decide) ?_; intro K hK; have e26 := HF.see 26 rfl; have e31 := HF.see 31 rfl; go_wp2_with fail; clear e26 e31 HF; intro _ HF
    refine sl_move HF rfl rfl (.inl rfl) (by decide) rfl ?_; clear HF; intro _ HF
    refine sl_want HF rfl rfl rfl rfl (by decide) ?_; intro K hK; have e3 := HF.see 3 rfl; go_wp2_with fail; clear e3 HF; intro _ HF
    refine sl_want HF rfl rfl rfl rfl (by decide) ?_; intro K hK; have e34 := HF.see 34 rfl; go_wp2_with fail; clear e34 HF; intro _ HF
    refine sl_want HF rfl rfl rfl rfl (by decide) ?_; intro K hK; have e4 := HF.see 4 rfl; go_wp2_with fail; clear e4 HF; intro _ HF
    refine sl_want HF rfl rfl rfl rfl (by decide) ?_; intro K hK; have e36 := HF.see 36 rfl; go_wp2_with fail; clear e36 HF; intro _ HF
    refine sl_want HF rfl rfl rfl rfl (by decide) ?_; intro K hK; have e35 := HF.see 35 rfl; have e37 := HF.see 37 rfl; go_wp2_with fail
    refine HEI.out.mono ?_
    rintro e w3 ⟨rfl, hm3⟩
    have HM3 := Lib.hid (HM2.out.trans hm3)
    clear hm3 k0 k1 k2 k3 k4 k5 l0 l1 l2 l3 l4 l5 HEI
    obtain ⟨k0, k1, k2, k3, k4, k5⟩ := code_boxed (HA.out.keep HM3.out id)
    obtain ⟨l0, l1, l2, l3, l4, l5⟩ := code_boxed (HB.out.keep HM3.out id)
    by_cases e3 : ¬ (a.ins = b.ins)
    · rw [decide_eq_false e3]
      have HR := Lib.hid (codeEq_false (a := a) (b := b) (fun h => e3 (by rw [h])))
      clear e3
      go_wp2_with fail; clear e35 e37 HF; intro _ HF
      refine sl_op HF rfl rfl (by decide) ?_; intro K hK; have e33 := HF.see 33 rfl; have e38 := HF.see 38 rfl; go_wp2_with fail; clear e33 e38 HF; intro _ HF
      refine sl_move HF rfl rfl (.inl rfl) (by decide) rfl ?_; clear HF; intro _ HF
      refine sl_skip HF rfl rfl rfl rfl (by decide) ?_; clear HF; intro _ HF
      refine sl_skip HF rfl rfl rfl rfl (by decide) ?_; clear HF; intro _ HF
      refine sl_skip HF rfl rfl rfl rfl (by decide) ?_; clear HF; intro _ HF
      refine sl_skip HF rfl rfl rfl rfl (by decide) ?_; clear HF; intro _ HF
      refine sl_skip HF rfl rfl rfl rfl (by decide) ?_; clear HF; intro _ HF
      refine sl_skip HF rfl rfl rfl rfl (by decide) ?_; clear HF; intro _ HF
      refine sl_op HF rfl rfl (by decide) ?_; intro K hK; have e40 := HF.see 40 rfl; have e46 := HF.see 46 rfl; go_wp2_with fail; clear e40 e46 HF; intro _ HF
      refine sl_move HF rfl rfl (.inr rfl) (by decide) rfl ?_; clear HF; intro _ HF
      refine sl_nil (wp_ret ?_)
      exact sl_ret1 HF rfl rfl ⟨by rw [HR.out], HM0.out.trans HM3.out⟩
    replace e3 := Decidable.not_not.1 e3
    rw [decide_eq_true e3]
    have E3 := Lib.hid e3
    clear e3
    go_wp2_with fail; clear e35 e37 HF; intro _ HF
    have HEF := Lib.hid (eqFunc_any a b va vb gd w3 (fun w' h => HFA.out w' (HM3.out.trans h)) (fun w' h => HFB.out w' (HM3.out.trans h)) (fun i x y w' cx cy hx hm hcx hcy => by
      obtain ⟨h1, h2, h3⟩ := IH.out i x hx
      exact same1_any x y w' cx cy gd d ((HD.out.keep (HM3.out.trans hm) id).cell 0) h3 hd100 h2 h1 hcx hcy))
    refine sl_op HF rfl rfl (by decide) ?_; intro K hK; have e33 := HF.see 33 rfl; have e38 := HF.see 38 rfl; go_wp2_with fail; clear e33 e38 HF; intro _ HF
    refine sl_move HF rfl rfl (.inl rfl) (by decide) rfl ?_; clear HF; intro _ HF
    refine sl_want HF rfl rfl rfl rfl (by decide) ?_; intro K hK; have e3 := HF.see 3 rfl; go_wp2_with fail; clear e3 HF; intro _ HF
    refine sl_want HF rfl rfl rfl rfl (by decide) ?_; intro K hK; have e41 := HF.see 41 rfl; go_wp2_with fail; clear e41 HF; intro _ HF
    refine sl_want HF rfl rfl rfl rfl (by decide) ?_; intro K hK; have e4 := HF.see 4 rfl; go_wp2_with fail; clear e4 HF; intro _ HF
    refine sl_want HF rfl rfl rfl rfl (by decide) ?_; intro K hK; have e43 := HF.see 43 rfl; go_wp2_with fail; clear e43 HF; intro _ HF
    refine sl_want HF rfl rfl rfl rfl (by decide) ?_; intro K hK; have e5 := HF.see 5 rfl; go_wp2_with fail; clear e5 HF; intro _ HF
    refine sl_want HF rfl rfl rfl rfl (by decide) ?_; intro K hK; have e42 := HF.see 42 rfl; have e44 := HF.see 44 rfl; have e45 := HF.see 45 rfl; go_wp2_with fail
    refine HEF.out.mono ?_
    rintro e w4 ⟨⟨r, rfl, hr⟩, hm4⟩
    have HM4 := Lib.hid (HM3.out.trans hm4)
    have HR := Lib.hid (show codeEq a b = r by
      cases r
      · exact codeEq_false (fun h => by have := hr.2 (by rw [h]); cases this)
      · exact codeEq_true (code_ext E0.out E1.out E2.out E3.out (hr.1 rfl) E5.out))
    clear hm4 hr k0 k1 k2 k3 k4 k5 l0 l1 l2 l3 l4 l5 HEF
    go_wp2_with fail; clear e42 e44 e45 HF; intro _ HF
    refine sl_op HF rfl rfl (by decide) ?_; intro K hK; have e40 := HF.see 40 rfl; have e46 := HF.see 46 rfl; go_wp2_with fail; clear e40 e46 HF; intro _ HF
    refine sl_move HF rfl rfl (.inr rfl) (by decide) rfl ?_; clear HF; intro _ HF
    refine sl_nil (wp_ret ?_)
    exact sl_ret1 HF rfl rfl ⟨by rw [HR.out], HM0.out.trans HM4.out⟩

noncomputable def csBody : Code := (Tryd.f10.body).getD .skip
set_option maxHeartbeats 3200000 in
set_option maxRecDepth 100000 in
theorem codeSame_any (a b : CodeT) (w : World) (ca cb : List Value) (hd : a.deep ≤ 100) (hca : CodeC w a ca) (hcb : CodeC w b cb) : Calls Tryd.prog 10 #[.agg ca.toArray, .agg cb.toArray] w fun e w' => e = .returned (.bool (codeEq a b)) ∧ Mod Nil w w' := by
  obtain ⟨vx, hvx, _⟩ := hca.view
  obtain ⟨vy, hvy, _⟩ := hcb.view
  have hm1 := (Mod.refl Nil w).alloc (.cells (codeArr a vx) 26)
  have hm2 := hm1.alloc (.cells (codeArr b vy) 26)
  have hbA : Blk ((w.alloc (.cells (codeArr a vx) 26)).alloc (.cells (codeArr b vy) 26)) w.heap.size 26 (codeArr a vx) := (Blk.new _ _ _).alloc _
  have hbB : Blk ((w.alloc (.cells (codeArr a vx) 26)).alloc (.cells (codeArr b vy) 26)) (w.heap.size + 1) 26 (codeArr b vy) := by
    have := Blk.new (w.alloc (.cells (codeArr a vx) 26)) 26 (codeArr b vy)
    simpa using this
  have HC := Lib.hid (scSame_ok _ a (Nat.le_refl _) b _ ca cb 100 hd (Nat.le_refl _) (hca.keep hm2) (hcb.keep hm2))
  rw [hvx, hvy] at HC
  rw [hvx, hvy]
  clear hca hcb hvx hvy hm1 hd
  refine sl_enter (n := 8) (fn := Tryd.f10) (c := csBody) Tryd.func10 rfl rfl (by simp) fun ac HF => ?_
  conv => arg 2; whnf
  unfold codeArr at hbA hbB hm2 HF HC
  refine wp_seq (wp_region_lit ?_)
  refine sl_op HF rfl rfl (by decide) ?_; intro K hK; have e0 := HF.see 0 rfl; go_wp2_with fail; clear e0 HF; intro _ HF
  refine sl_op HF rfl rfl (by decide) ?_; intro K hK; have e1 := HF.see 1 rfl; go_wp2_with fail; clear e1 HF; intro _ HF
  refine sl_const HF rfl rfl (.inr rfl) (by decide) ?_; clear HF; intro _ HF
  generalize (w.alloc (.cells #[.int .i64 a.args, .int .i64 a.vars, .slice vx.A2 a.lits.length vx.c2, .slice vx.A3 a.ins.length vx.c3, .slice vx.A4 a.blocks.length vx.c4, .string (str a.cls)] 26)).alloc (.cells #[.int .i64 b.args, .int .i64 b.vars, .slice vy.A2 b.lits.length vy.c2, .slice vy.A3 b.ins.length vy.c3, .slice vy.A4 b.blocks.length vy.c4, .string (str b.cls)] 26) = w1 at hbA hbB hm2 HC ⊢
  generalize w.heap.size + 1 = gb at hbB HF
  generalize w.heap.size = ga at hbA HF
  obtain ⟨k0, k1, k2, k3, k4, k5⟩ := code_cells hbA
  obtain ⟨l0, l1, l2, l3, l4, l5⟩ := code_cells hbB
  have HM := Lib.hid hm2
  clear hbA hbB hm2
  refine sl_nil (wp_seq (wp_region_lit ?_))
  refine sl_op HF rfl rfl (by decide) ?_; intro K hK; have e2 := HF.see 2 rfl; go_wp2_with fail; clear e2 HF; intro _ HF
  refine sl_op HF rfl rfl (by decide) ?_; intro K hK; have e3 := HF.see 3 rfl; go_wp2_with fail; clear e3 HF; intro _ HF
  refine sl_op HF rfl rfl (by decide) ?_; intro K hK; have e5 := HF.see 5 rfl; have e6 := HF.see 6 rfl; go_wp2_with fail
  refine HC.out.mono ?_
  rintro e w2 ⟨rfl, hm3⟩
  have HM3 := Lib.hid (HM.out.trans hm3)
  clear hm3
  go_wp2_with fail; clear e5 e6 HF; intro _ HF
  refine sl_move HF rfl rfl (.inr rfl) (by decide) rfl ?_; clear HF; intro _ HF
  refine sl_nil (wp_ret ?_)
  exact sl_ret1 HF rfl rfl ⟨rfl, HM3.out⟩
end Go.Proofs.YtefloadjolpgbaaDoor

namespace Go.Proofs.YtefloadjolpgbaaDoor
open Go.RowKit

theorem u8_lt (c : UInt8) : (c.toNat : Int) < 256 := by have := c.toNat_lt; omega

/-- The same of a rune. -/
def smallR (r : Nat) : Bool := decide (97 ≤ r) && decide (r ≤ 122)
def largeR (r : Nat) : Bool := decide (65 ≤ r) && decide (r ≤ 90)
def digR (r : Nat) : Bool := decide (48 ≤ r) && decide (r ≤ 57)

set_option maxHeartbeats 400000 in
set_option maxRecDepth 100000 in
theorem nmSmall_any (r : Nat) (hr : r ≤ 2147483647) (w : World) : Calls Tryd.prog 63 #[.int .i32 r] w fun e w' => e = .returned (.bool (smallR r)) ∧ w = w' := by
  go_enter Tryd.func63, Tryd.ntmps63
  go_wp2
  all_goals
    go_ret
    refine ⟨ret_bool ?_, rfl⟩
    rw [Bool.eq_iff_iff]
    simp [smallR]
    try omega
set_option maxHeartbeats 400000 in
set_option maxRecDepth 100000 in
theorem nmLarge_any (r : Nat) (hr : r ≤ 2147483647) (w : World) : Calls Tryd.prog 49 #[.int .i32 r] w fun e w' => e = .returned (.bool (largeR r)) ∧ w = w' := by
  go_enter Tryd.func49, Tryd.ntmps49
  go_wp2
  all_goals
    go_ret
    refine ⟨ret_bool ?_, rfl⟩
    rw [Bool.eq_iff_iff]
    simp [largeR]
    try omega
set_option maxHeartbeats 400000 in
set_option maxRecDepth 100000 in
theorem nmDigit_any (r : Nat) (hr : r ≤ 2147483647) (w : World) : Calls Tryd.prog 64 #[.int .i32 r] w fun e w' => e = .returned (.bool (digR r)) ∧ w = w' := by
  go_enter Tryd.func64, Tryd.ntmps64
  go_wp2
  all_goals
    go_ret
    refine ⟨ret_bool ?_, rfl⟩
    rw [Bool.eq_iff_iff]
    simp [digR]
    try omega
end Go.Proofs.YtefloadjolpgbaaDoor

namespace Go.Proofs.YtefloadjolpgbaaDoor
open Go.RowKit

theorem str_get {l : List UInt8} {k : Nat} {c : UInt8} (h : l[k]? = some c) : (str l).data[k]? = some c := by simpa [str] using h
theorem str_getE {l : List UInt8} {k : Nat} {c : UInt8} (h : l[k]? = some c) (hk : k < (str l).size) : (str l)[k]'hk = c := by
  obtain ⟨hl, h1⟩ := List.getElem?_eq_some_iff.1 h
  exact (show l.toArray[k] = l[k] by simp).trans h1
theorem str_toList (l : List UInt8) : (str l).toList = l := by rw [ByteArray.toList_eq, str_list]
theorem str_beq (l m : List UInt8) : ((str l).toList == m) = (l == m) := by rw [str_toList]
theorem str_extract (l : List UInt8) (a b : Nat) : (str l).extract a b = str ((l.drop a).take (b - a)) := by
  apply ByteArray.ext
  simp [str]
def fnv (fn : Nat) : Value := .func (.func fn) #[] #[]
theorem indexByte_pos (l : List UInt8) (c : UInt8) : (0 ≤ Lib.indexByte l c) ↔ l.contains c = true := by
  induction l with
  | nil => simp [Lib.indexByte]
  | cons b r ih =>
    have := Lib.indexByte_ge r c
    rw [Lib.indexByte]
    by_cases hb : b = c
    · simp [hb]
    · have h1 : (b == c) = false := by simp [hb]
      have h2 : (c == b) = false := by simp [Ne.symm hb]
      rw [h1]
      simp only [Bool.false_eq_true, if_false, List.contains_cons, h2, Bool.false_or]
      rw [← ih]
      split
      · rename_i he
        simp at he
        omega
      · rename_i he
        simp at he
        omega
theorem u8_back (c : UInt8) : (Int.toNat (c.toNat : Int)).toUInt8 = c := by simp

end Go.Proofs.YtefloadjolpgbaaDoor

namespace Go.Proofs.YtefloadjolpgbaaDoor
open Go.RowKit

theorem Mod.iterAt {F : Nat → Prop} {a w : World} (h : Mod F a w) {k : Nat} (hk : F k ∨ a.heap.size ≤ k) (s : ByteArray) (pos : Nat) : Mod F a (w.iterAt k s pos) :=
  ⟨h.os, h.tape, h.output, by rw [Lib.iterAt_size]; exact h.size, fun i hi hn => (Lib.iterAt_other w k i s pos (by
    rintro rfl
    rcases hk with hk | hk
    · exact hn hk
    · omega)).trans (h.block i hi hn)⟩

theorem iter_pos {w : World} {k : Nat} {s : ByteArray} {p : Nat} (h : w.heap[k]? = some (.stringIter s p)) : w.iterPos k = p := by simp [World.iterPos, h]

/-- A rune that a name's place does not take. -/
def badR (r pos : Nat) : Bool := !smallR r && !largeR r && (decide (pos = 0) || !digR r)

structure IsSt (w : World) (l : List UInt8) (pos : Nat) (wr : World) : Prop where
  le : pos ≤ l.length
  it : wr.heap[w.heap.size]? = some (.stringIter (str l) pos)
  mod : Mod Nil w wr
  ok : ∀ i c, i < pos → l[i]? = some c → badR c.toNat i = false

theorem badR_word {c : UInt8} {i : Nat} (h : badR c.toNat i = false) : wrdB c = true ∧ (i = 0 → letB c = true) := by
  unfold badR at h
  unfold wrdB letB smallB largeB digB
  unfold smallR largeR digR at h
  refine ⟨?_, fun hi => ?_⟩
  · simp at h ⊢
    omega
  · subst hi
    simp at h ⊢
    omega
theorem nmIs_bad {l : List UInt8} {i : Nat} {c : UInt8} (hc : l[i]? = some c) (h : badR c.toNat i = true) : nmIs l = false := by
  rw [Bool.eq_false_iff]
  intro hn
  unfold nmIs at hn
  cases l with
  | nil => simp at hc
  | cons d r =>
    simp only [Bool.and_eq_true] at hn
    obtain ⟨⟨h1, h2⟩, _⟩ := hn
    have h3 : wrdB c = true := List.all_eq_true.1 h2 c (List.mem_of_getElem? hc)
    unfold badR smallR largeR digR at h
    unfold wrdB letB smallB largeB digB at h3
    cases i with
    | zero =>
      simp at hc
      subst hc
      unfold letB smallB largeB at h1
      simp at h h1
      omega
    | succ i =>
      simp at h h3
      omega
theorem nmIs_ok {l : List UInt8} (h : ∀ i c, i < l.length → l[i]? = some c → badR c.toNat i = false) : nmIs l = (decide (1 ≤ l.length) && decide (l.length ≤ 40)) := by
  unfold nmIs
  cases l with
  | nil => rfl
  | cons d r =>
    have h1 : letB d = true := (badR_word (h 0 d (by simp) rfl)).2 rfl
    have h2 : (d :: r).all wrdB = true := by
      rw [List.all_eq_true]
      intro c hc
      obtain ⟨i, hi⟩ := List.getElem?_of_mem hc
      exact (badR_word (h i c (List.getElem?_eq_some_iff.1 hi).1 hi)).1
    simp only [h1, h2, Bool.true_and]
    simp

set_option maxHeartbeats 1600000 in
set_option maxRecDepth 100000 in
theorem nmIs_any (l : List UInt8) (hl : l.length ≤ 4000000) (w : World) : Calls Tryd.prog 48 #[.string (str l)] w fun e w' => e = .returned (.bool (nmIs l)) ∧ Mod Nil w w' := by
  have hsz := str_size l
  go_enter Tryd.func48, Tryd.ntmps48
  go_wp2_with fail
  go_loopw [3] (fun _ wr => ∃ pos, IsSt w l pos wr) (fun _ wr => l.length - wr.iterPos w.heap.size)
  case atStart => exact ⟨0, Nat.zero_le _, World.iter_heap w (str l) 0, (Mod.refl _ _).alloc _, fun i c hi => absurd hi (by omega)⟩
  case round =>
    obtain ⟨pos, hst⟩ := hrel
    have hpos := iter_pos hst.it
    have HST := Lib.hid hst
    by_cases hp : pos < l.length
    · obtain ⟨c, hc⟩ : ∃ c, l[pos]? = some c := ⟨_, List.getElem?_eq_getElem hp⟩
      obtain ⟨r, wd, hnx, hr, hrc⟩ : ∃ r wd : Nat, (∀ ty, (Instr.next (.pointer (some ⟨w.heap.size, 0, none⟩)) true ty).run Tryd.prog wr = .ok (.tuple #[.bool true, .int .i64 pos, .int .i32 r]) (wr.iterAt w.heap.size (str l) (pos + wd))) ∧ r ≤ 2147483647 ∧ ((r = c.toNat ∧ wd = 1) ∨ (128 ≤ c.toNat ∧ 128 ≤ r)) := by
        have hg := str_getE hc (by omega)
        by_cases h128 : c.toNat < 128
        · have := c.toNat_lt
          refine ⟨c.toNat, 1, fun ty => ?_, by omega, .inl ⟨rfl, rfl⟩⟩
          have h1 := Lib.run_next_ascii_at (P := Tryd.prog) wr w.heap.size (str l) pos ty hst.it (by omega) (by rw [hg]; exact h128)
          rw [hg] at h1
          exact h1
        · refine ⟨_, _, fun ty => Lib.run_next_any_at wr w.heap.size (str l) pos ty hst.it (by omega), decode_le _ _, .inr ⟨by omega, (decode_high (str l) pos (by omega) (by rw [hg]; omega)).1⟩⟩
      have hbad : badR r pos = true → nmIs l = false := by
        intro h
        refine nmIs_bad hc ?_
        rcases hrc with ⟨rfl, _⟩ | ⟨h1, h2⟩
        · exact h
        · unfold badR smallR largeR digR
          simp
          omega
      obtain ⟨W1, hW1⟩ : ∃ W1, W1 = wr.iterAt w.heap.size (str l) (pos + wd) := ⟨_, rfl⟩
      have hmod : Mod Nil w W1 := by rw [hW1]; exact hst.mod.iterAt (.inr (Nat.le_refl _)) _ _
      have hgood : badR r pos = false → IsSt w l (pos + 1) W1 := by
        intro h
        rcases hrc with ⟨h1, h2⟩ | ⟨h1, h2⟩
        · refine ⟨hp, ?_, hmod, fun i d hi hd => ?_⟩
          · rw [hW1, h2]
            exact Lib.iterAt_heap _ _ _ _ _ hst.it
          · rcases Nat.lt_or_ge i pos with h | h'
            · exact hst.ok i d h hd
            · have : i = pos := by omega
              subst this
              rw [hc] at hd
              cases hd
              rw [← h1]
              exact h
        · exfalso
          unfold badR smallR largeR digR at h
          simp at h
          omega
      rw [← hW1] at hnx
      have HB := Lib.hid hbad
      have HG := Lib.hid hgood
      have HM := Lib.hid hmod
      have HBR : badR r pos = (!smallR r && !largeR r && (decide (pos = 0) || !digR r)) := rfl
      have HBH := Lib.hid HBR
      clear hst hbad hgood hmod hW1 hc hrc HBR
      go_wp2_with fail
      refine (nmSmall_any r hr _).mono ?_
      rintro e w2 ⟨rfl, rfl⟩
      rcases h1 : smallR r with _ | _
      · go_wp2_with fail
        refine (nmLarge_any r hr _).mono ?_
        rintro e w2 ⟨rfl, rfl⟩
        rcases h2 : largeR r with _ | _
        · by_cases h0 : pos = 0
          · have hb : badR r pos = true := by rw [HBH.out, h1, h2, h0]; rfl
            have HD := Lib.hid (HB.out hb)
            clear hb
            subst h0
            go_wp2_with fail
            go_ret
            exact ⟨ret_bool HD.out.symm, HM.out⟩
          · have h0' : ((pos : Int) == 0) = false := by simp [h0]
            have HBX := Lib.hid h0
            clear h0
            go_wp2_with fail
            refine (nmDigit_any r hr _).mono ?_
            rintro e w2 ⟨rfl, rfl⟩
            rcases h3 : digR r with _ | _
            · have hb : badR r pos = true := by rw [HBH.out, h1, h2, h3]; simp
              have HD := Lib.hid (HB.out hb)
              clear hb
              go_wp2_with fail
              go_ret
              exact ⟨ret_bool HD.out.symm, HM.out⟩
            · have hb : badR r pos = false := by rw [HBH.out, h1, h2, h3]; simp [HBX.out]
              have HD := Lib.hid (HG.out hb)
              clear hb
              go_wp2_with fail
              refine ⟨⟨pos + 1, HD.out⟩, ?_⟩
              rw [iter_pos HD.out.it, hpos]
              omega
        · have hb : badR r pos = false := by rw [HBH.out, h1, h2]; rfl
          have HD := Lib.hid (HG.out hb)
          clear hb
          go_wp2_with fail
          refine ⟨⟨pos + 1, HD.out⟩, ?_⟩
          rw [iter_pos HD.out.it, hpos]
          omega
      · have hb : badR r pos = false := by rw [HBH.out, h1]; rfl
        have HD := Lib.hid (HG.out hb)
        clear hb
        go_wp2_with fail
        refine ⟨⟨pos + 1, HD.out⟩, ?_⟩
        rw [iter_pos HD.out.it, hpos]
        omega
    · have hnx : ∀ ty, (Instr.next (.pointer (some ⟨w.heap.size, 0, none⟩)) true ty).run Tryd.prog wr = _ := fun ty => Lib.run_next_end_at wr w.heap.size (str l) pos ty hst.it (by omega)
      have hle := hst.le
      have heq : pos = l.length := by omega
      have HR := Lib.hid (nmIs_ok (l := l) (fun i c hi hc => hst.ok i c (by omega) hc))
      clear hst heq
      go_wp2_with fail
      · rename_i h
        go_ret
        refine ⟨ret_bool ?_, HST.out.mod⟩
        have h1 : 1 ≤ l.length := by omega
        rw [HR.out]
        simp [h1]
        omega
      · rename_i h
        go_ret
        refine ⟨ret_bool ?_, HST.out.mod⟩
        rw [HR.out]
        simp
        omega

theorem conv_u8_i32 (c : UInt8) : IntKind.i32.wrap (c.toNat : Int) = (c.toNat : Int) := by
  have := c.toNat_lt
  rw [IntKind.wrap_i32]
  omega

set_option maxHeartbeats 400000 in
set_option maxRecDepth 100000 in
theorem nmLower_any (l : List UInt8) (hl : l.length ≤ 4000000) (w : World) : Calls Tryd.prog 65 #[.string (str l)] w fun e w' => e = .returned (.bool (nmLower l)) ∧ Mod Nil w w' := by
  have hsz := str_size l
  have HL : nmLower l = (nmIs l && (match l with | [] => false | c :: _ => smallB c)) := by unfold nmLower; cases l <;> rfl
  have HL := Lib.hid HL
  go_enter Tryd.func65, Tryd.ntmps65
  go_wp2_with fail
  refine (nmIs_any l hl _).mono ?_
  rintro e w2 ⟨rfl, hm⟩
  have HM := Lib.hid hm
  clear hm
  rcases hb : nmIs l with _ | _
  · go_wp2_with fail
    go_ret
    exact ⟨ret_bool (by rw [HL.out, hb]; rfl), HM.out⟩
  · obtain ⟨c, r, rfl⟩ : ∃ c r, l = c :: r := by
      cases l with
      | nil => simp [nmIs] at hb
      | cons c r => exact ⟨c, r, rfl⟩
    have hg := str_getE (l := c :: r) (k := 0) (c := c) rfl (by rw [hsz]; simp)
    have hu := u8_lt c
    have hw := conv_u8_i32 c
    have hlen : (0 : Int) < ((str (c :: r)).size : Int) := by rw [hsz]; simp
    have hlen' : 0 < (str (c :: r)).size := by rw [hsz]; simp
    have HB := Lib.hid hb
    clear hb
    go_wp2_with fail
    refine (nmSmall_any c.toNat (by omega) _).mono ?_
    rintro e w3 ⟨rfl, rfl⟩
    go_wp2_with fail
    go_ret
    exact ⟨ret_bool (by rw [HL.out, HB.out]; rfl), HM.out⟩
end Go.Proofs.YtefloadjolpgbaaDoor
