/- Parts of the proof of CodeRunsUpto, joined: CodS NmP. -/
import Derived.Test.YtefloadjolpgbaaDoorCodeRunsUptoj2
namespace Go.Proofs.YtefloadjolpgbaaDoor
open Go.RowKit

theorem block_lt {c b : CodeT} {i : Nat} (h : c.blocks[i]? = some b) : SizeOf.sizeOf b < SizeOf.sizeOf c := by
  obtain ⟨a, v, l, is, bs, cl⟩ := c
  have h1 := List.sizeOf_lt_of_mem (List.mem_of_getElem? h)
  simp only [CodeT.blocks] at h1
  simp only [CodeT.mk.sizeOf_spec]
  omega

/-- The cells of a block that stands in a slice. -/
theorem rows_at {w : World} {A : Option Addr} {rows : List (List Value)} (h : Rd All w A rows.flatten) (h6 : ∀ r ∈ rows, r.length = 6) {i : Nat} {r : List Value} (hr : rows[i]? = some r) :
    ∃ ad, A = some ad ∧ ad.block < w.heap.size ∧ ∀ (j : Nat) (u : Value), r[j]? = some u → w.cell? (ad.add (i * 6 + j)) = some u := by
  have flat : ∀ (rows : List (List Value)) (i : Nat) (r : List Value), (∀ r ∈ rows, r.length = 6) → rows[i]? = some r → ∀ (j : Nat) (u : Value), r[j]? = some u → rows.flatten[i * 6 + j]? = some u := by
    intro rows
    induction rows with
    | nil => intro i r _ h; simp at h
    | cons q rows ih =>
      intro i r hl hr j u hu
      have hq := hl q (List.mem_cons_self ..)
      rw [List.flatten_cons]
      cases i with
      | zero =>
        cases hr
        have := (List.getElem?_eq_some_iff.1 hu).1
        rw [List.getElem?_append_left (by omega), Nat.zero_mul, Nat.zero_add]
        exact hu
      | succ i =>
        rw [List.getElem?_append_right (by omega), hq, show (i + 1) * 6 + j - 6 = i * 6 + j by omega]
        exact ih i r (fun x hx => hl x (List.mem_cons_of_mem _ hx)) hr j u hu
  have hr6 := h6 r (List.mem_of_getElem? hr)
  obtain ⟨v, hv⟩ : ∃ v, r[0]? = some v := ⟨_, List.getElem?_eq_getElem (by omega)⟩
  have h0 := flat rows i r h6 hr 0 v hv
  have hpos : 0 < rows.flatten.length := by have := (List.getElem?_eq_some_iff.1 h0).1; omega
  obtain ⟨ad, e1, _, e2, e3⟩ := h hpos
  exact ⟨ad, e1, e2, fun j u hu => e3 _ u (flat rows i r h6 hr j u hu)⟩

theorem add_posn (a : Addr) (n j : Nat) : a.add (n + (j + 1)) = ⟨(a.add n).block, (a.add n).off + (j + 1), none⟩ := by
  unfold Addr.add
  split <;> split <;> simp_all <;> omega
/-- The six cells of a block that stands in a slice, as the walk reads them. -/
theorem rows_six {w : World} {A : Option Addr} {rows : List (List Value)} (h : Rd All w A rows.flatten) (h6 : ∀ r ∈ rows, r.length = 6) {i : Nat} {r : List Value} (hr : rows[i]? = some r) :
    ∃ ad u0 u1 u2 u3 u4 u5, A = some ad ∧ ad.block < w.heap.size ∧ r = [u0, u1, u2, u3, u4, u5] ∧ w.cell? (ad.add (i * 6)) = some u0 ∧ w.cell? ⟨(ad.add (i * 6)).block, (ad.add (i * 6)).off + 1, none⟩ = some u1 ∧ w.cell? ⟨(ad.add (i * 6)).block, (ad.add (i * 6)).off + 2, none⟩ = some u2 ∧
      w.cell? ⟨(ad.add (i * 6)).block, (ad.add (i * 6)).off + 3, none⟩ = some u3 ∧ w.cell? ⟨(ad.add (i * 6)).block, (ad.add (i * 6)).off + 4, none⟩ = some u4 ∧ w.cell? ⟨(ad.add (i * 6)).block, (ad.add (i * 6)).off + 5, none⟩ = some u5 := by
  obtain ⟨ad, e1, e2, hc⟩ := rows_at h h6 hr
  have hr6 := h6 r (List.mem_of_getElem? hr)
  rcases r with _ | ⟨q0, _ | ⟨q1, _ | ⟨q2, _ | ⟨q3, _ | ⟨q4, _ | ⟨q5, _ | ⟨q6, q7⟩⟩⟩⟩⟩⟩⟩ <;> simp at hr6
  refine ⟨ad, q0, q1, q2, q3, q4, q5, e1, e2, rfl, hc 0 q0 rfl, ?_, ?_, ?_, ?_, ?_⟩
  · rw [← add_posn ad (i * 6) 0]; exact hc 1 q1 rfl
  · rw [← add_posn ad (i * 6) 1]; exact hc 2 q2 rfl
  · rw [← add_posn ad (i * 6) 2]; exact hc 3 q3 rfl
  · rw [← add_posn ad (i * 6) 3]; exact hc 4 q4 rfl
  · rw [← add_posn ad (i * 6) 4]; exact hc 5 q5 rfl

def SzI (w0 : World) (nb : Nat) (g : Nat) (most : Int) (ac : Act) (w : World) : Prop :=
  ∃ (x : Int) (i : Nat), Sl 39 [(1, .int .i64 most), (2, .pointer (some ⟨g, 0, none⟩)), (5, .int .i64 x), (6, .int .i64 (i : Nat))] ac ∧ i ≤ nb ∧ Mod Nil w0 w

noncomputable def sizeBody : Code := (Tryd.f13.body).getD .skip

theorem code_cells {w : World} {g : Nat} {v0 v1 v2 v3 v4 v5 : Value} (h : Blk w g 26 #[v0, v1, v2, v3, v4, v5]) :
    w.cell? ⟨g, 0, none⟩ = some v0 ∧ w.cell? ⟨g, 1, none⟩ = some v1 ∧ w.cell? ⟨g, 2, none⟩ = some v2 ∧ w.cell? ⟨g, 3, none⟩ = some v3 ∧ w.cell? ⟨g, 4, none⟩ = some v4 ∧ w.cell? ⟨g, 5, none⟩ = some v5 :=
  ⟨h.cell 0, h.cell 1, h.cell 2, h.cell 3, h.cell 4, h.cell 5⟩

set_option maxHeartbeats 3200000 in
set_option maxRecDepth 100000 in
theorem size_any : ∀ (m : Nat) (c : CodeT), SizeOf.sizeOf c ≤ m → ∀ (w : World) (cs : List Value) (most : Int), CodeC w c cs → Calls Tryd.prog 13 #[.agg cs.toArray, .int .i64 most] w fun e w' => (∃ n, e = .returned (.int .i64 n)) ∧ Mod Nil w w' := by
  intro m
  induction m with
  | zero => intro c hc; obtain ⟨a, v, l, is, bs, cl⟩ := c; simp at hc
  | succ m ih =>
    intro c hc w cs most h
    have HC := Lib.hid h
    cases h with
    | mk args vars lits ins blocks cls A2 A3 A4 c2 c3 c4 rows ha hv hcl hl hi n2 m2 n3 m3 n4 m4 r2 r3 r4 hr h6 hb =>
      have HB := Lib.hid hb
      have HR4 := Lib.hid r4
      have H6 := Lib.hid h6
      have HRL := Lib.hid hr
      have IH := Lib.hid ih
      have HCS := Lib.hid hc
      have hm4 : blocks.length ≤ 9223372036854775807 := by unfold maxLen at m4; omega
      obtain ⟨nb, hnb⟩ : ∃ nb, nb = blocks.length := ⟨_, rfl⟩
      have HNB := Lib.hid hnb
      rw [← hnb] at hm4 n4
      have hblk : Blk (w.alloc (.cells #[.int .i64 args, .int .i64 vars, .slice A2 lits.length c2, .slice A3 ins.length c3, .slice A4 nb c4, .string (str cls)] 26)) w.heap.size 26 #[.int .i64 args, .int .i64 vars, .slice A2 lits.length c2, .slice A3 ins.length c3, .slice A4 nb c4, .string (str cls)] := Blk.new _ _ _
      have hm0 := (Mod.refl Nil w).alloc (.cells #[.int .i64 args, .int .i64 vars, .slice A2 lits.length c2, .slice A3 ins.length c3, .slice A4 nb c4, .string (str cls)] 26)
      rw [← hnb]
      clear hb r4 h6 hr ih hc hnb r2 r3 hl hi ha hv hcl
      refine sl_enter (n := 39) (fn := Tryd.f13) (c := sizeBody) Tryd.func13 rfl rfl (by simp) fun ac HF => ?_
      conv => arg 2; whnf
      refine wp_seq (wp_region_lit ?_)
      refine sl_op HF rfl rfl (by decide) ?_; intro K hK; have e0 := HF.see 0 rfl; go_wp2_with fail; clear e0 HF; intro _ HF
      refine sl_const HF rfl rfl (.inr rfl) (by decide) ?_; clear HF; intro _ HF
      generalize w.alloc (.cells #[.int .i64 args, .int .i64 vars, .slice A2 lits.length c2, .slice A3 ins.length c3, .slice A4 nb c4, .string (str cls)] 26) = w1 at hblk hm0 ⊢
      generalize w.heap.size = g at hblk HF
      have HBK := Lib.hid hblk
      have HM0 := Lib.hid hm0
      obtain ⟨k0, k1, k2, k3, k4, k5⟩ := code_cells hblk
      clear hblk hm0
      refine sl_nil (wp_seq (wp_region_lit ?_))
      refine sl_op HF rfl rfl (by decide) ?_; intro K hK; have e2 := HF.see 2 rfl; go_wp2_with fail; clear e2 HF; intro _ HF
      refine sl_op HF rfl rfl (by decide) ?_; intro K hK; have e7 := HF.see 7 rfl; go_wp2_with fail; clear e7 HF; intro _ HF
      refine sl_op HF rfl rfl (by decide) ?_; intro K hK; have e8 := HF.see 8 rfl; go_wp2_with fail; clear e8 HF; intro _ HF
      refine sl_op HF rfl rfl (by decide) ?_; intro K hK; have e2 := HF.see 2 rfl; go_wp2_with fail; clear e2 HF; intro _ HF
      refine sl_op HF rfl rfl (by decide) ?_; intro K hK; have e10 := HF.see 10 rfl; go_wp2_with fail; clear e10 HF; intro _ HF
      refine sl_op HF rfl rfl (by decide) ?_; intro K hK; have e11 := HF.see 11 rfl; go_wp2_with fail; clear e11 HF; intro _ HF
      refine sl_op HF rfl rfl (by decide) ?_; intro K hK; have e9 := HF.see 9 rfl; have e12 := HF.see 12 rfl; go_wp2_with fail; clear e9 e12 HF; intro _ HF
      refine sl_op HF rfl rfl (by decide) ?_; intro K hK; have e13 := HF.see 13 rfl; go_wp2_with fail; clear e13 HF; intro _ HF
      refine sl_move HF rfl rfl (.inr rfl) (by decide) rfl ?_; clear HF; intro _ HF
      refine sl_nil (wp_seq (wp_seq (wp_region_lit ?_)))
      refine sl_const HF rfl rfl (.inr rfl) (by decide) ?_; clear HF; intro _ HF
      clear k0 k1 k2 k3 k4 k5
      refine sl_nil (wp_block (wp_loop (SzI w1 nb g most) (fun ac _ => nb - (intOf (ac.eval (.tmp 6))).toNat) ?_ ?_))
      · exact ⟨_, 0, HF.keep [1, 2, 5, 6], Nat.zero_le _, Mod.refl _ _⟩
      · clear HF
        rintro ac2 w2 ⟨x, i, HF, hin, hm2⟩
        have hmu : nb - (intOf ((ac2.tmps[6]?).getD undef)).toNat = nb - i := by rw [HF.see 6 rfl]; simp [intOf]
        have HMU := Lib.hid hmu
        have HM2 := Lib.hid hm2
        have hblk := HBK.out.keep hm2 id
        obtain ⟨k0, k1, k2, k3, k4, k5⟩ := code_cells hblk
        clear hmu hm2 hblk
        by_cases hlt : i < nb
        · have hlt' : decide ((i : Int) < nb) = true := by simp; omega
          rcases hx : decide (x < most) with _ | _
          · refine wp_seq (wp_seq (wp_region_lit ?_))
            refine sl_move HF rfl rfl (.inl rfl) (by decide) rfl ?_; clear HF; intro _ HF
            refine sl_op HF rfl rfl (by decide) ?_; intro K hK; have e2 := HF.see 2 rfl; go_wp2_with fail; clear e2 HF; intro _ HF
            refine sl_op HF rfl rfl (by decide) ?_; intro K hK; have e16 := HF.see 16 rfl; go_wp2_with fail; clear e16 HF; intro _ HF
            refine sl_op HF rfl rfl (by decide) ?_; intro K hK; have e17 := HF.see 17 rfl; go_wp2_with fail; clear e17 HF; intro _ HF
            refine sl_op HF rfl rfl (by decide) ?_; intro K hK; have e15 := HF.see 15 rfl; have e18 := HF.see 18 rfl; go_wp2_with fail; clear e15 e18 HF; intro _ HF
            refine sl_move HF rfl rfl (.inl rfl) (by decide) rfl ?_; clear HF; intro _ HF
            refine sl_want HF rfl rfl rfl rfl (by decide) ?_; intro K hK; have e5 := HF.see 5 rfl; go_wp2_with fail; clear e5 HF; intro _ HF
            refine sl_want HF rfl rfl rfl rfl (by decide) ?_; intro K hK; have e1 := HF.see 1 rfl; go_wp2_with fail; clear e1 HF; intro _ HF
            refine sl_want HF rfl rfl rfl rfl (by decide) ?_; intro K hK; have e21 := HF.see 21 rfl; have e22 := HF.see 22 rfl; go_wp2_with fail; clear e21 e22 HF; intro _ HF
            refine sl_op HF rfl rfl (by decide) ?_; intro K hK; have e20 := HF.see 20 rfl; have e23 := HF.see 23 rfl; go_wp2_with fail; clear e20 e23 HF; intro _ HF
            refine sl_nil (wp_cond_false (HF.at 24 rfl) (wp_exit ?_))
            dsimp only [Exit.then]
            refine sl_exit (sl_then (wp_seq (wp_region_lit ?_)))
            refine sl_move HF rfl rfl (.inl rfl) (by decide) rfl ?_; clear HF; intro _ HF
            refine sl_move HF rfl rfl (.inr rfl) (by decide) rfl ?_; clear HF; intro _ HF
            exact sl_nil (wp_ret (sl_ret1 HF rfl rfl ⟨⟨_, rfl⟩, HM0.out.trans HM2.out⟩))
          · refine wp_seq (wp_seq (wp_region_lit ?_))
            refine sl_move HF rfl rfl (.inl rfl) (by decide) rfl ?_; clear HF; intro _ HF
            refine sl_op HF rfl rfl (by decide) ?_; intro K hK; have e2 := HF.see 2 rfl; go_wp2_with fail; clear e2 HF; intro _ HF
            refine sl_op HF rfl rfl (by decide) ?_; intro K hK; have e16 := HF.see 16 rfl; go_wp2_with fail; clear e16 HF; intro _ HF
            refine sl_op HF rfl rfl (by decide) ?_; intro K hK; have e17 := HF.see 17 rfl; go_wp2_with fail; clear e17 HF; intro _ HF
            refine sl_op HF rfl rfl (by decide) ?_; intro K hK; have e15 := HF.see 15 rfl; have e18 := HF.see 18 rfl; go_wp2_with fail; clear e15 e18 HF; intro _ HF
            refine sl_move HF rfl rfl (.inl rfl) (by decide) rfl ?_; clear HF; intro _ HF
            refine sl_want HF rfl rfl rfl rfl (by decide) ?_; intro K hK; have e5 := HF.see 5 rfl; go_wp2_with fail; clear e5 HF; intro _ HF
            refine sl_want HF rfl rfl rfl rfl (by decide) ?_; intro K hK; have e1 := HF.see 1 rfl; go_wp2_with fail; clear e1 HF; intro _ HF
            refine sl_want HF rfl rfl rfl rfl (by decide) ?_; intro K hK; have e21 := HF.see 21 rfl; have e22 := HF.see 22 rfl; go_wp2_with fail; clear e21 e22 HF; intro _ HF
            refine sl_op HF rfl rfl (by decide) ?_; intro K hK; have e20 := HF.see 20 rfl; have e23 := HF.see 23 rfl; go_wp2_with fail; clear e20 e23 HF; intro _ HF
            refine sl_nil (wp_cond_true (HF.at 24 rfl) (wp_skip (sl_then (wp_seq (wp_block (wp_region_lit ?_))))))
            obtain ⟨b, hbi⟩ : ∃ b, blocks[i]? = some b := ⟨_, List.getElem?_eq_getElem (by rw [← HNB.out]; exact hlt)⟩
            obtain ⟨r, hri⟩ : ∃ r, rows[i]? = some r := ⟨_, List.getElem?_eq_getElem (by rw [HRL.out, ← HNB.out]; exact hlt)⟩
            obtain ⟨ad, u0, u1, u2, u3, u4, u5, rfl, hab, rfl, e0, e1, e2, e3, e4, e5⟩ := rows_six (HR4.out.keep0 (HM0.out.trans HM2.out)) H6.out hri
            have hbc := (HB.out i b _ hbi hri).keep (HM0.out.trans HM2.out)
            have hsz := block_lt (c := .mk args vars lits ins blocks cls) (b := b) (i := i) hbi
            have HIH := Lib.hid (fun (most : Int) => IH.out b (by have := HCS.out; omega) w2 _ most hbc)
            clear hbc hri hbi hsz
            refine sl_move HF rfl rfl (.inl rfl) (by decide) rfl ?_; clear HF; intro _ HF
            refine sl_op HF rfl rfl (by decide) ?_; intro K hK; have e2 := HF.see 2 rfl; go_wp2_with fail; clear e2 HF; intro _ HF
            refine sl_op HF rfl rfl (by decide) ?_; intro K hK; have e28 := HF.see 28 rfl; go_wp2_with fail; clear e28 HF; intro _ HF
            refine sl_move HF rfl rfl (.inl rfl) (by decide) rfl ?_; clear HF; intro _ HF
            refine sl_op HF rfl rfl (by decide) ?_; intro K hK; have e29 := HF.see 29 rfl; have e30 := HF.see 30 rfl; go_wp2_with fail; clear e29 e30 HF; intro _ HF
            refine sl_op HF rfl rfl (by decide) ?_; intro K hK; have e31 := HF.see 31 rfl; go_wp2_with fail; clear e31 HF; intro _ HF
            refine sl_move HF rfl rfl (.inl rfl) (by decide) rfl ?_; clear HF; intro _ HF
            refine sl_move HF rfl rfl (.inl rfl) (by decide) rfl ?_; clear HF; intro _ HF
            refine sl_op HF rfl rfl (by decide) ?_; intro K hK; have e33 := HF.see 33 rfl; have e34 := HF.see 34 rfl; go_wp2_with fail; clear e33 e34 HF; intro _ HF
            refine sl_op HF rfl rfl (by decide) ?_; intro K hK; have e32 := HF.see 32 rfl; have e35 := HF.see 35 rfl; go_wp2_with fail
            refine (HIH.out _).mono ?_
            rintro e w3 ⟨⟨n, rfl⟩, hm3⟩
            have HM3 := Lib.hid (HM2.out.trans hm3)
            clear hm3
            go_wp2_with fail; clear e32 e35 HF; intro _ HF
            refine sl_op HF rfl rfl (by decide) ?_; intro K hK; have e27 := HF.see 27 rfl; have e36 := HF.see 36 rfl; go_wp2_with fail; clear e27 e36 HF; intro _ HF
            refine sl_move HF rfl rfl (.inr rfl) (by decide) rfl ?_; clear HF; intro _ HF
            refine wpList_nil (sl_blk (wp_region_lit ?_))
            refine sl_move HF rfl rfl (.inl rfl) (by decide) rfl ?_; clear HF; intro _ HF
            refine sl_op HF rfl rfl (by decide) ?_; intro K hK; have e25 := HF.see 25 rfl; go_wp2_with fail; clear e25 HF; intro _ HF
            refine sl_move HF rfl rfl (.inr rfl) (by decide) rfl ?_; clear HF; intro _ HF
            refine wpList_nil ?_
            have HF2 := HF.keep [1, 2, 5, 6]
            simp only [pick, look] at HF2
            rw [show (i : Int) + 1 = ((i + 1 : Nat) : Int) by omega] at HF2
            refine ⟨⟨_, i + 1, HF2, hlt, HM3.out⟩, ?_⟩
            have e9 := HF.see 6 rfl
            try simp only [Act.eval_tmp]
            rw [HMU.out, e9]
            simp only [intOf]
            omega
        · have hge : decide ((i : Int) < nb) = false := by simp; omega
          refine wp_seq (wp_seq (wp_region_lit ?_))
          refine sl_move HF rfl rfl (.inl rfl) (by decide) rfl ?_; clear HF; intro _ HF
          refine sl_op HF rfl rfl (by decide) ?_; intro K hK; have e2 := HF.see 2 rfl; go_wp2_with fail; clear e2 HF; intro _ HF
          refine sl_op HF rfl rfl (by decide) ?_; intro K hK; have e16 := HF.see 16 rfl; go_wp2_with fail; clear e16 HF; intro _ HF
          refine sl_op HF rfl rfl (by decide) ?_; intro K hK; have e17 := HF.see 17 rfl; go_wp2_with fail; clear e17 HF; intro _ HF
          refine sl_op HF rfl rfl (by decide) ?_; intro K hK; have e15 := HF.see 15 rfl; have e18 := HF.see 18 rfl; go_wp2_with fail; clear e15 e18 HF; intro _ HF
          refine sl_move HF rfl rfl (.inl rfl) (by decide) rfl ?_; clear HF; intro _ HF
          refine sl_skip HF rfl rfl rfl rfl (by decide) ?_; clear HF; intro _ HF
          refine sl_skip HF rfl rfl rfl rfl (by decide) ?_; clear HF; intro _ HF
          refine sl_skip HF rfl rfl rfl rfl (by decide) ?_; clear HF; intro _ HF
          refine sl_op HF rfl rfl (by decide) ?_; intro K hK; have e20 := HF.see 20 rfl; have e23 := HF.see 23 rfl; go_wp2_with fail; clear e20 e23 HF; intro _ HF
          refine sl_nil (wp_cond_false (HF.at 24 rfl) (wp_exit ?_))
          dsimp only [Exit.then]
          refine sl_exit (sl_then (wp_seq (wp_region_lit ?_)))
          refine sl_move HF rfl rfl (.inl rfl) (by decide) rfl ?_; clear HF; intro _ HF
          refine sl_move HF rfl rfl (.inr rfl) (by decide) rfl ?_; clear HF; intro _ HF
          exact sl_nil (wp_ret (sl_ret1 HF rfl rfl ⟨⟨_, rfl⟩, HM0.out.trans HM2.out⟩))

mutual
/-- How many blocks are within one another. -/
def CodeT.deep : CodeT → Nat
  | .mk _ _ _ _ bs _ => deepL bs
def deepL : List CodeT → Nat
  | [] => 0
  | b :: bs => max (1 + b.deep) (deepL bs)
end
theorem deepL_snoc : ∀ (bs : List CodeT) (b : CodeT), deepL (bs ++ [b]) = max (deepL bs) (1 + b.deep)
  | [], b => by simp [deepL]
  | c :: bs, b => by
    rw [List.cons_append, deepL, deepL, deepL_snoc bs b]
    omega
theorem deepL_take {bs : List CodeT} {i : Nat} {b : CodeT} (h : bs[i]? = some b) : deepL (bs.take (i + 1)) = max (deepL (bs.take i)) (1 + b.deep) := by
  rw [List.take_add_one, h]
  exact deepL_snoc _ _
theorem deep_mk (a v : Int) (l : List LitT) (i : List InsT) (bs : List CodeT) (cl : List UInt8) : (CodeT.mk a v l i bs cl).deep = deepL bs := by rw [CodeT.deep]

theorem mx_max2 (k k' : IntKind) (x y : Int) : Builtin.max2 (.int k x) (.int k' y) = pure (.int k (if x < y then y else x)) := by simp only [Builtin.max2, gt_iff_lt]
theorem mx_two (ats : Array TypeId) (ty : TypeId) (a b : Value) : Builtin.max_ ats ty #[a, b] = (Builtin.max2 a b >>= fun s => pure s) := by simp only [Builtin.max_, List.foldlM_cons, List.foldlM_nil]
attribute [local go_sem] mx_max2 mx_two

noncomputable def depthBody : Code := (Tryd.f14.body).getD .skip
def DpI (w0 : World) (blocks : List CodeT) (g : Nat) (most : Nat) (ac : Act) (w : World) : Prop :=
  ∃ (i : Nat), Sl 30 [(1, .int .i64 most), (2, .pointer (some ⟨g, 0, none⟩)), (5, .int .i64 (min (deepL (blocks.take i)) most : Nat)), (6, .int .i64 (i : Nat))] ac ∧ i ≤ blocks.length ∧ Mod Nil w0 w

set_option maxHeartbeats 3200000 in
set_option maxRecDepth 100000 in
theorem depth_any : ∀ (m : Nat) (c : CodeT), SizeOf.sizeOf c ≤ m → ∀ (w : World) (cs : List Value) (most : Nat), most ≤ 60 → CodeC w c cs → Calls Tryd.prog 14 #[.agg cs.toArray, .int .i64 most] w fun e w' => e = .returned (.int .i64 (min c.deep most : Nat)) ∧ Mod Nil w w' := by
  intro m
  induction m with
  | zero => intro c hc; obtain ⟨a, v, l, is, bs, cl⟩ := c; simp at hc
  | succ m ih =>
    intro c hc w cs most h60 h
    have HC := Lib.hid h
    cases h with
    | mk args vars lits ins blocks cls A2 A3 A4 c2 c3 c4 rows ha hv hcl hl hi n2 m2 n3 m3 n4 m4 r2 r3 r4 hr h6 hb =>
      have HB := Lib.hid hb
      have HR4 := Lib.hid r4
      have H6 := Lib.hid h6
      have HRL := Lib.hid hr
      have IH := Lib.hid ih
      have HCS := Lib.hid hc
      have hm4 : blocks.length ≤ 9223372036854775807 := by unfold maxLen at m4; omega
      obtain ⟨nb, hnb⟩ : ∃ nb, nb = blocks.length := ⟨_, rfl⟩
      have HNB := Lib.hid hnb
      rw [← hnb] at hm4 n4
      have hblk : Blk (w.alloc (.cells #[.int .i64 args, .int .i64 vars, .slice A2 lits.length c2, .slice A3 ins.length c3, .slice A4 nb c4, .string (str cls)] 26)) w.heap.size 26 #[.int .i64 args, .int .i64 vars, .slice A2 lits.length c2, .slice A3 ins.length c3, .slice A4 nb c4, .string (str cls)] := Blk.new _ _ _
      have hm0 := (Mod.refl Nil w).alloc (.cells #[.int .i64 args, .int .i64 vars, .slice A2 lits.length c2, .slice A3 ins.length c3, .slice A4 nb c4, .string (str cls)] 26)
      rw [← hnb]
      clear hb r4 h6 hr ih hc hnb r2 r3 hl hi ha hv hcl
      refine sl_enter (n := 30) (fn := Tryd.f14) (c := depthBody) Tryd.func14 rfl rfl (by simp) fun ac HF => ?_
      conv => arg 2; whnf
      refine wp_seq (wp_region_lit ?_)
      refine sl_op HF rfl rfl (by decide) ?_; intro K hK; have e0 := HF.see 0 rfl; go_wp2_with fail; clear e0 HF; intro _ HF
      refine sl_const HF rfl rfl (.inr rfl) (by decide) ?_; clear HF; intro _ HF
      generalize w.alloc (.cells #[.int .i64 args, .int .i64 vars, .slice A2 lits.length c2, .slice A3 ins.length c3, .slice A4 nb c4, .string (str cls)] 26) = w1 at hblk hm0 ⊢
      generalize w.heap.size = g at hblk HF
      have HBK := Lib.hid hblk
      have HM0 := Lib.hid hm0
      obtain ⟨k0, k1, k2, k3, k4, k5⟩ := code_cells hblk
      clear hblk hm0
      refine sl_nil (wp_seq (wp_region_lit ?_))
      refine sl_const HF rfl rfl (.inr rfl) (by decide) ?_; clear HF; intro _ HF
      refine sl_nil (wp_seq (wp_seq (wp_region_lit ?_)))
      refine sl_const HF rfl rfl (.inr rfl) (by decide) ?_; clear HF; intro _ HF
      clear k0 k1 k2 k3 k4 k5
      refine sl_nil (wp_block (wp_loop (DpI w1 blocks g most) (fun ac _ => nb - (intOf (ac.eval (.tmp 6))).toNat) ?_ ?_))
      · refine ⟨0, ?_, Nat.zero_le _, Mod.refl _ _⟩
        rw [List.take_zero, show min (deepL []) most = 0 by simp [deepL]]
        exact HF.keep [1, 2, 5, 6]
      · clear HF
        rintro ac2 w2 ⟨i, HF, hin, hm2⟩
        obtain ⟨x, hx⟩ : ∃ x, x = min (deepL (blocks.take i)) most := ⟨_, rfl⟩
        rw [← hx] at HF
        rw [← HNB.out] at hin
        have hx60 : x ≤ 60 := by omega
        have HX := Lib.hid hx
        clear hx
        have hmu : nb - (intOf ((ac2.tmps[6]?).getD undef)).toNat = nb - i := by rw [HF.see 6 rfl]; simp [intOf]
        have HMU := Lib.hid hmu
        have HM2 := Lib.hid hm2
        have hblk := HBK.out.keep hm2 id
        obtain ⟨k0, k1, k2, k3, k4, k5⟩ := code_cells hblk
        clear hmu hm2 hblk
        by_cases hlt : i < nb
        · have hlt' : decide ((i : Int) < nb) = true := by simp; omega
          by_cases h0 : most = 0
          · have hg0 : decide (0 < most) = false := by simp; omega
            have HR := Lib.hid (show min (CodeT.mk args vars lits ins blocks cls).deep most = x by rw [HX.out, h0]; simp)
            clear h0
            refine wp_seq (wp_seq (wp_region_lit ?_))
            refine sl_move HF rfl rfl (.inl rfl) (by decide) rfl ?_; clear HF; intro _ HF
            refine sl_op HF rfl rfl (by decide) ?_; intro K hK; have e2 := HF.see 2 rfl; go_wp2_with fail; clear e2 HF; intro _ HF
            refine sl_op HF rfl rfl (by decide) ?_; intro K hK; have e8 := HF.see 8 rfl; go_wp2_with fail; clear e8 HF; intro _ HF
            refine sl_op HF rfl rfl (by decide) ?_; intro K hK; have e9 := HF.see 9 rfl; go_wp2_with fail; clear e9 HF; intro _ HF
            refine sl_op HF rfl rfl (by decide) ?_; intro K hK; have e7 := HF.see 7 rfl; have e10 := HF.see 10 rfl; go_wp2_with fail; clear e7 e10 HF; intro _ HF
            refine sl_move HF rfl rfl (.inl rfl) (by decide) rfl ?_; clear HF; intro _ HF
            refine sl_want HF rfl rfl rfl rfl (by decide) ?_; intro K hK; have e1 := HF.see 1 rfl; go_wp2_with fail; clear e1 HF; intro _ HF
            refine sl_want HF rfl rfl rfl rfl (by decide) ?_; intro K hK; have e13 := HF.see 13 rfl; go_wp2_with fail; clear e13 HF; intro _ HF
            refine sl_op HF rfl rfl (by decide) ?_; intro K hK; have e12 := HF.see 12 rfl; have e14 := HF.see 14 rfl; go_wp2_with fail; clear e12 e14 HF; intro _ HF
            refine sl_nil (wp_cond_false (HF.at 15 rfl) (wp_exit ?_))
            dsimp only [Exit.then]
            refine sl_exit (sl_then (wp_seq (wp_region_lit ?_)))
            refine sl_move HF rfl rfl (.inl rfl) (by decide) rfl ?_; clear HF; intro _ HF
            refine sl_move HF rfl rfl (.inr rfl) (by decide) rfl ?_; clear HF; intro _ HF
            exact sl_nil (wp_ret (sl_ret1 HF rfl rfl ⟨by rw [HR.out], HM0.out.trans HM2.out⟩))
          · have hg0 : decide (0 < most) = true := by simp; omega
            have hmz : ((most - 1 : Nat) : Int) = (most : Int) - 1 := by omega
            refine wp_seq (wp_seq (wp_region_lit ?_))
            refine sl_move HF rfl rfl (.inl rfl) (by decide) rfl ?_; clear HF; intro _ HF
            refine sl_op HF rfl rfl (by decide) ?_; intro K hK; have e2 := HF.see 2 rfl; go_wp2_with fail; clear e2 HF; intro _ HF
            refine sl_op HF rfl rfl (by decide) ?_; intro K hK; have e8 := HF.see 8 rfl; go_wp2_with fail; clear e8 HF; intro _ HF
            refine sl_op HF rfl rfl (by decide) ?_; intro K hK; have e9 := HF.see 9 rfl; go_wp2_with fail; clear e9 HF; intro _ HF
            refine sl_op HF rfl rfl (by decide) ?_; intro K hK; have e7 := HF.see 7 rfl; have e10 := HF.see 10 rfl; go_wp2_with fail; clear e7 e10 HF; intro _ HF
            refine sl_move HF rfl rfl (.inl rfl) (by decide) rfl ?_; clear HF; intro _ HF
            refine sl_want HF rfl rfl rfl rfl (by decide) ?_; intro K hK; have e1 := HF.see 1 rfl; go_wp2_with fail; clear e1 HF; intro _ HF
            refine sl_want HF rfl rfl rfl rfl (by decide) ?_; intro K hK; have e13 := HF.see 13 rfl; go_wp2_with fail; clear e13 HF; intro _ HF
            refine sl_op HF rfl rfl (by decide) ?_; intro K hK; have e12 := HF.see 12 rfl; have e14 := HF.see 14 rfl; go_wp2_with fail; clear e12 e14 HF; intro _ HF
            refine sl_nil (wp_cond_true (HF.at 15 rfl) (wp_skip (sl_then (wp_seq (wp_block (wp_region_lit ?_))))))
            obtain ⟨b, hbi⟩ : ∃ b, blocks[i]? = some b := ⟨_, List.getElem?_eq_getElem (by rw [← HNB.out]; exact hlt)⟩
            obtain ⟨r, hri⟩ : ∃ r, rows[i]? = some r := ⟨_, List.getElem?_eq_getElem (by rw [HRL.out, ← HNB.out]; exact hlt)⟩
            obtain ⟨ad, u0, u1, u2, u3, u4, u5, rfl, hab, rfl, e0, e1, e2, e3, e4, e5⟩ := rows_six (HR4.out.keep0 (HM0.out.trans HM2.out)) H6.out hri
            have hbc := (HB.out i b _ hbi hri).keep (HM0.out.trans HM2.out)
            have hsz := block_lt (c := .mk args vars lits ins blocks cls) (b := b) (i := i) hbi
            have HIH := Lib.hid (IH.out b (by have := HCS.out; omega) w2 _ (most - 1) (by omega) hbc)
            have HNX := Lib.hid (deepL_take hbi)
            rw [hmz] at HIH
            clear hmz
            clear hbc hri hbi hsz
            refine sl_move HF rfl rfl (.inl rfl) (by decide) rfl ?_; clear HF; intro _ HF
            refine sl_op HF rfl rfl (by decide) ?_; intro K hK; have e2 := HF.see 2 rfl; go_wp2_with fail; clear e2 HF; intro _ HF
            refine sl_op HF rfl rfl (by decide) ?_; intro K hK; have e19 := HF.see 19 rfl; go_wp2_with fail; clear e19 HF; intro _ HF
            refine sl_move HF rfl rfl (.inl rfl) (by decide) rfl ?_; clear HF; intro _ HF
            refine sl_op HF rfl rfl (by decide) ?_; intro K hK; have e20 := HF.see 20 rfl; have e21 := HF.see 21 rfl; go_wp2_with fail; clear e20 e21 HF; intro _ HF
            refine sl_op HF rfl rfl (by decide) ?_; intro K hK; have e22 := HF.see 22 rfl; go_wp2_with fail; clear e22 HF; intro _ HF
            refine sl_move HF rfl rfl (.inl rfl) (by decide) rfl ?_; clear HF; intro _ HF
            refine sl_op HF rfl rfl (by decide) ?_; intro K hK; have e24 := HF.see 24 rfl; go_wp2_with fail; clear e24 HF; intro _ HF
            refine sl_op HF rfl rfl (by decide) ?_; intro K hK; have e23 := HF.see 23 rfl; have e25 := HF.see 25 rfl; go_wp2_with fail
            refine HIH.out.mono ?_
            rintro e w3 ⟨rfl, hm3⟩
            obtain ⟨n, hn⟩ : ∃ n, n = min b.deep (most - 1) := ⟨_, rfl⟩
            rw [← hn]
            have hn60 : n ≤ 60 := by omega
            have HN := Lib.hid hn
            clear hn
            have HM3 := Lib.hid (HM2.out.trans hm3)
            clear hm3
            go_wp2_with fail; clear e23 e25 HF; intro _ HF
            obtain ⟨y, hy⟩ : ∃ y, y = min (deepL (blocks.take (i + 1))) most := ⟨_, rfl⟩
            have hv : (if (x : Int) < 1 + (n : Int) then 1 + (n : Int) else (x : Int)) = (y : Int) := by
              have e1 := HNX.out
              have e2 := HN.out
              have e3 := HX.out
              split <;> omega
            have HY := Lib.hid hy
            clear hy
            refine sl_op HF rfl rfl (by decide) ?_; intro K hK; have e26 := HF.see 26 rfl; go_wp2_with fail; clear e26 HF; intro _ HF
            refine sl_op HF rfl rfl (by decide) ?_; intro K hK; have e18 := HF.see 18 rfl; have e27 := HF.see 27 rfl; go_wp2_with fail; clear e18 e27 HF; intro _ HF
            refine sl_move HF rfl rfl (.inr rfl) (by decide) rfl ?_; clear HF; intro _ HF
            clear hv
            refine wpList_nil (sl_blk (wp_region_lit ?_))
            refine sl_move HF rfl rfl (.inl rfl) (by decide) rfl ?_; clear HF; intro _ HF
            refine sl_op HF rfl rfl (by decide) ?_; intro K hK; have e16 := HF.see 16 rfl; go_wp2_with fail; clear e16 HF; intro _ HF
            refine sl_move HF rfl rfl (.inr rfl) (by decide) rfl ?_; clear HF; intro _ HF
            refine wpList_nil ?_
            have HF2 := HF.keep [1, 2, 5, 6]
            simp only [pick, look] at HF2
            rw [show (i : Int) + 1 = ((i + 1 : Nat) : Int) by omega] at HF2
            refine ⟨⟨i + 1, ?_, by rw [← HNB.out]; exact hlt, HM3.out⟩, ?_⟩
            · rw [← HY.out]
              exact HF2
            have e9 := HF.see 6 rfl
            try simp only [Act.eval_tmp]
            rw [HMU.out, e9]
            simp only [intOf]
            omega
        · have hge : decide ((i : Int) < nb) = false := by simp; omega
          have HR := Lib.hid (show min (CodeT.mk args vars lits ins blocks cls).deep most = x by
            have e3 := HX.out
            rw [List.take_of_length_le (by rw [← HNB.out]; omega)] at e3
            rw [deep_mk, e3])
          refine wp_seq (wp_seq (wp_region_lit ?_))
          refine sl_move HF rfl rfl (.inl rfl) (by decide) rfl ?_; clear HF; intro _ HF
          refine sl_op HF rfl rfl (by decide) ?_; intro K hK; have e2 := HF.see 2 rfl; go_wp2_with fail; clear e2 HF; intro _ HF
          refine sl_op HF rfl rfl (by decide) ?_; intro K hK; have e8 := HF.see 8 rfl; go_wp2_with fail; clear e8 HF; intro _ HF
          refine sl_op HF rfl rfl (by decide) ?_; intro K hK; have e9 := HF.see 9 rfl; go_wp2_with fail; clear e9 HF; intro _ HF
          refine sl_op HF rfl rfl (by decide) ?_; intro K hK; have e7 := HF.see 7 rfl; have e10 := HF.see 10 rfl; go_wp2_with fail; clear e7 e10 HF; intro _ HF
          refine sl_move HF rfl rfl (.inl rfl) (by decide) rfl ?_; clear HF; intro _ HF
          refine sl_skip HF rfl rfl rfl rfl (by decide) ?_; clear HF; intro _ HF
          refine sl_skip HF rfl rfl rfl rfl (by decide) ?_; clear HF; intro _ HF
          refine sl_op HF rfl rfl (by decide) ?_; intro K hK; have e12 := HF.see 12 rfl; have e14 := HF.see 14 rfl; go_wp2_with fail; clear e12 e14 HF; intro _ HF
          refine sl_nil (wp_cond_false (HF.at 15 rfl) (wp_exit ?_))
          dsimp only [Exit.then]
          refine sl_exit (sl_then (wp_seq (wp_region_lit ?_)))
          refine sl_move HF rfl rfl (.inl rfl) (by decide) rfl ?_; clear HF; intro _ HF
          refine sl_move HF rfl rfl (.inr rfl) (by decide) rfl ?_; clear HF; intro _ HF
          exact sl_nil (wp_ret (sl_ret1 HF rfl rfl ⟨by rw [HR.out], HM0.out.trans HM2.out⟩))
end Go.Proofs.YtefloadjolpgbaaDoor

namespace Go.Proofs.YtefloadjolpgbaaDoor
open Go.RowKit

def smallB (c : UInt8) : Bool := decide (97 ≤ c.toNat) && decide (c.toNat ≤ 122)
def largeB (c : UInt8) : Bool := decide (65 ≤ c.toNat) && decide (c.toNat ≤ 90)
def letB (c : UInt8) : Bool := smallB c || largeB c
def digB (c : UInt8) : Bool := decide (48 ≤ c.toNat) && decide (c.toNat ≤ 57)
def wrdB (c : UInt8) : Bool := letB c || digB c

/-- How many octets are of some, from the beginning on. -/
def runL (p : UInt8 → Bool) : List UInt8 → Nat
  | [] => 0
  | c :: r => if p c then runL p r + 1 else 0
theorem runL_le (p : UInt8 → Bool) : ∀ l : List UInt8, runL p l ≤ l.length
  | [] => Nat.le_refl _
  | c :: r => by
    have := runL_le p r
    rw [runL]
    split <;> simp <;> omega
theorem runL_all (p : UInt8 → Bool) : ∀ (l : List UInt8) (i : Nat) (c : UInt8), i < runL p l → l[i]? = some c → p c = true
  | [], i, c, h, _ => by simp [runL] at h
  | x :: r, i, c, h, hc => by
    rw [runL] at h
    split at h
    · rename_i hx
      cases i with
      | zero => simp at hc; subst hc; exact hx
      | succ i => exact runL_all p r i c (by omega) (by simpa using hc)
    · omega
theorem runL_end (p : UInt8 → Bool) : ∀ (l : List UInt8) (c : UInt8), l[runL p l]? = some c → p c = false
  | [], c, h => by simp at h
  | x :: r, c, h => by
    rw [runL] at h
    split at h
    · exact runL_end p r c (by simpa using h)
    · rename_i hx
      simp at h
      subst h
      simpa using hx
theorem runL_of {p : UInt8 → Bool} {l : List UInt8} {n : Nat} (h1 : ∀ i c, i < n → l[i]? = some c → p c = true) (hn : n ≤ l.length) (h2 : ∀ c, l[n]? = some c → p c = false) : runL p l = n := by
  induction l generalizing n with
  | nil => simp at hn; simp [runL, hn]
  | cons x r ih =>
    cases n with
    | zero =>
      have := h2 x rfl
      rw [runL, if_neg (by simp [this])]
    | succ n =>
      have hx := h1 0 x (by omega) rfl
      rw [runL, if_pos hx, ih (n := n) (fun i c hi hc => h1 (i + 1) c (by omega) (by simpa using hc)) (by simpa using hn) (fun c hc => h2 c (by simpa using hc))]

/-- A word's length, with which a text begins. -/
def wrdL (l : List UInt8) : Nat := match l with
  | [] => 0
  | c :: _ => if letB c then runL wrdB l else 0
theorem wrdL_le (l : List UInt8) : wrdL l ≤ l.length := by
  cases l with
  | nil => exact Nat.le_refl _
  | cons c r =>
    rw [wrdL]
    split
    · exact runL_le _ _
    · omega

def nmIs (l : List UInt8) : Bool := (match l with | [] => false | c :: _ => letB c) && l.all wrdB && decide (l.length ≤ 40)
def nmLower (l : List UInt8) : Bool := nmIs l && (match l with | [] => false | c :: _ => smallB c)
def binL : List UInt8 := [43, 45, 42, 47, 60, 62, 61, 126, 38, 44, 64, 37]
def binB (c : UInt8) : Bool := binL.contains c
def nmBin (l : List UInt8) : Bool := (decide (l.length = 1) || decide (l.length = 2)) && l.all binB

/-- The pieces that a colon ends, without it; what stays. -/
def splitC : List UInt8 → List (List UInt8) × List UInt8
  | [] => ([], [])
  | c :: r => if c = 58 then ([] :: (splitC r).1, (splitC r).2) else match (splitC r).1 with
    | [] => ([], c :: (splitC r).2)
    | p :: ps => ((c :: p) :: ps, (splitC r).2)
def nmKw (l : List UInt8) : Bool := (splitC l).2.isEmpty && decide (1 ≤ (splitC l).1.length) && decide ((splitC l).1.length ≤ 10) && (splitC l).1.all nmLower
def nmKind (l : List UInt8) : Nat := if nmLower l then 1 else if nmBin l then 2 else if nmKw l then 3 else 0

theorem splitC_nocolon : ∀ {a : List UInt8} (_ : ∀ c ∈ a, c ≠ 58), splitC a = ([], a)
  | [], _ => rfl
  | c :: r, h => by
    have ih := splitC_nocolon (a := r) (fun x hx => h x (by simp [hx]))
    rw [splitC, if_neg (h c (by simp)), ih]
theorem splitC_append : ∀ (a : List UInt8) (b : List UInt8), splitC (a ++ 58 :: b) = ((splitC a).1 ++ (splitC a).2 :: (splitC b).1, (splitC b).2)
  | [], b => by simp [splitC]
  | c :: r, b => by
    have ih := splitC_append r b
    rw [List.cons_append, splitC, splitC, ih]
    split
    · simp
    · rcases h : (splitC r).1 with _ | ⟨p, ps⟩
      · simp
      · simp
/-- The pieces put together again. -/
theorem splitC_join : ∀ (l : List UInt8), (splitC l).1.flatMap (· ++ [58]) ++ (splitC l).2 = l
  | [] => rfl
  | c :: r => by
    have ih := splitC_join r
    rw [splitC]
    split
    · rename_i hc
      simp [hc, ih]
    · rcases h : (splitC r).1 with _ | ⟨p, ps⟩
      · rw [h] at ih
        simp at ih
        simp [ih]
      · rw [h] at ih
        simp at ih
        simp [ih]
theorem wrdB_colon : wrdB 58 = false := by decide
theorem binB_colon : binB 58 = false := by decide

theorem nmIs_word {l : List UInt8} (h : nmIs l = true) : l.all wrdB = true := by
  unfold nmIs at h
  simp at h
  simpa using h.1.2
theorem nmLower_word {l : List UInt8} (h : nmLower l = true) : l.all wrdB = true ∧ l ≠ [] ∧ l.length ≤ 40 := by
  unfold nmLower at h
  simp only [Bool.and_eq_true] at h
  refine ⟨nmIs_word h.1, ?_, ?_⟩
  · rintro rfl
    simp at h
  · have := h.1
    unfold nmIs at this
    simp at this
    exact this.2
end Go.Proofs.YtefloadjolpgbaaDoor
