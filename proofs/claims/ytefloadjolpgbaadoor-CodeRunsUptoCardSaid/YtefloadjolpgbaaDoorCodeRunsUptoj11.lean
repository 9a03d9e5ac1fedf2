/- Parts of the proof of CodeRunsUpto, joined: Hgt AppK Appn. -/
import Derived.Test.YtefloadjolpgbaaDoorCodeRunsUptoj10
import Derived.Deep.RegionLaw
namespace Go.Proofs.YtefloadjolpgbaaDoor
open Go.RowKit

noncomputable def hgtBody : Code := (Tryd.f16.body).getD .skip

/-- How many of a block's whole numbers are below zero. -/
def negs (w : World) (g : Nat) : Nat := match w.heap[g]? with
  | some (.cells cur _ _) => cur.toList.countP fun v => decide (intOf v < 0)
  | _ => 0
theorem negs_eq {w : World} {g : Nat} {t : TypeId} {o : List Int} (h : Blk w g t (o.map iv).toArray) : negs w g = unk o := by
  unfold negs
  unfold Blk at h
  rw [h]
  simp only [List.countP_map, unk]
  rfl
def lenOf : Value → Nat | .slice _ n _ => n | _ => 0
def hmsr (g : Nat) (ac : Act) (w : World) : Nat := 2 * negs w g + lenOf (ac.eval (.tmp 8))

theorem iv_set (o : List Int) (i : Nat) (h : Int) : (o.map iv).toArray.setIfInBounds i (.int .i64 h) = ((o.set i h).map iv).toArray := by
  simp [List.map_set, iv]

/-- Between two rounds. -/
def HgI (c : CodeT) (v : CodeV) (w0 : World) (g : Nat) (ac : Act) (w : World) : Prop :=
  ∃ (o : List Int) (q : List Nat) (most : Int) (tv : Value), Sl 113 [(5, .slice v.A3 c.ins.length v.c3), (6, .slice (some ⟨g, 0, none⟩) c.ins.length c.ins.length), (7, .int .i64 most), (8, tv)] ac ∧ HInv c.ins o q most none ∧
    Blk w g 3 (o.map iv).toArray ∧ QRow w (g + 1) 3 tv q.length (q.map fun (i : Nat) => iv i) ∧ Mod Nil w0 w ∧ 2 * unk o + q.length ≤ 100000

/-- Where one place goes to: so many of the next ones looked at. -/
def HgJ (ins : List InsT) (ad : Addr) (c3 n : Nat) (w0 : World) (g i : Nat) (hat nx : Int) (x : InsT) (most : Int) (A : Option Addr) (cg M : Nat) (ac : Act) (w : World) : Prop :=
  ∃ (o : List Int) (q : List Nat) (tv : Value) (k : Nat), Sl 113 [(5, .slice (some ad) n c3), (6, .slice (some ⟨g, 0, none⟩) n n), (7, .int .i64 most), (8, tv), (9, .int .i64 (i : Nat)), (12, .int .i64 nx), (74, .slice A (goesL i x).length cg), (75, .int .i64 (goesL i x).length), (76, .int .i64 (k : Nat))] ac ∧
    HInv ins o q most (some i) ∧ seen o i = some hat ∧ k ≤ (goesL i x).length ∧ (∀ j t, j < k → (goesL i x)[j]? = some t → 0 ≤ t ∧ seen o t.toNat = some nx) ∧ 2 * unk o + q.length ≤ M ∧
    Blk w g 3 (o.map iv).toArray ∧ QRow w (g + 1) 3 tv q.length (q.map fun (i : Nat) => iv i) ∧ Mod Nil w0 w ∧ Rd (fun b => g < b ∧ tv.ownBlock ≠ some b) w A ((goesL i x).map iv)

theorem sl_blk0 {id : Nat} {Q : Exit → Act → World → Prop} {a : Act} {w : World} (h : Q .normal a w) : Exit.inBlock id Q .normal a w := h
theorem goesL_len (i : Int) (x : InsT) : (goesL i x).length ≤ 2 := by
  unfold goesL
  repeat' split
  all_goals simp

/-- What heights answers. -/
def HgtRes (ins : List InsT) (w : World) (e : Ending) (w' : World) : Prop := Mod Nil w w' ∧
  ((∃ g o most, e = .returned (.tuple #[.slice (some ⟨g, 0, none⟩) ins.length ins.length, .int .i64 most, .bool true]) ∧ w.heap.size ≤ g ∧ Blk w' g 3 (o.map iv).toArray ∧ o.length = ins.length ∧ Fits ins (seen o) ∧ MostIs ins o most) ∨
   (e = .returned (.tuple #[.slice none 0 0, .int .i64 0, .bool false]) ∧ ¬ ∃ f, Fits ins f))

theorem sl_ret3 {P : Program} {n : Nat} {L : List (Tmp × Value)} {a : Act} {fn : Func} {R : Ending → World → Prop} {w : World} {t u s : Tmp} {v x y : Value} (h : Sl n L a) (hr : fn.results = #[.tmp t, .tmp u, .tmp s]) (e : look L t = some v) (e' : look L u = some x) (e'' : look L s = some y) (hR : R (.returned (.tuple #[v, x, y])) w) : bodyPost P fn R .ret a w := by
  have h1 := h.sees t v e
  have h2 := h.sees u x e'
  have h3 := h.sees s y e''
  simp only [Act.eval] at h1 h2 h3
  refine bodyPost_ret (v := .tuple #[v, x, y]) ?_ h.nd hR
  rw [← h1, ← h2, ← h3]
  simp [results, hr]

theorem mx_three (ats : Array TypeId) (ty : TypeId) (a b c : Value) : Builtin.max_ ats ty #[a, b, c] = (Builtin.max2 a b >>= fun s => Builtin.max2 s c >>= fun s => pure s) := by simp only [Builtin.max_, List.foldlM_cons, List.foldlM_nil]
theorem op_max3 {P : Program} {o : Oper} {a : Act} {w : World} {K : Act → World → Prop} {Q : Exit → Act → World → Prop} {t1 t2 t3 : Tmp} {T : TypeId} (ho : o.op = .call { callee := .builtin .max, args := #[.tmp t1, .tmp t2, .tmp t3], argTypes := #[T, T, T] })
    {x y z : Int} (h1 : (a.tmps[t1]?).getD undef = .int .i64 x) (h2 : (a.tmps[t2]?).getD undef = .int .i64 y) (h3 : (a.tmps[t3]?).getD undef = .int .i64 z)
    (hk : ∀ m, x ≤ m → y ≤ m → z ≤ m → (m = x ∨ m = y ∨ m = z) → K (a.put o.dst (.int .i64 m)) w) : o.wp P a w K Q := by
  rw [← Act.eval_tmp] at h1 h2 h3
  unfold Oper.wp execOp
  simp only [ho, resolve, invoke, builtin, Sem.run_bind, Sem.run_pure, Result.andThen_ok, List.map_toArray, List.map_cons, List.map_nil, h1, h2, h3, mx_three, mx_max2]
  refine hk _ ?_ ?_ ?_ ?_ <;> (repeat' split) <;> omega

set_option maxHeartbeats 3200000 in
set_option maxRecDepth 100000 in
theorem heights_any (c : CodeT) (v : CodeV) (A5 : Option Addr) (n5 c5 : Nat) (w : World) (hf : ∀ w', Mod Nil w w' → CodeF w' c v) (hn1 : 1 ≤ c.ins.length) (hn2 : c.ins.length ≤ 20000) (hx : ∀ x ∈ c.ins, InsFit x) :
    Calls Tryd.prog 16 #[.agg (kArr c v A5 n5 c5)] w fun e w' => HgtRes c.ins w e w' := by
  have hbk : Blk (w.alloc (.cells (kArr c v A5 n5 c5) 41)) w.heap.size 41 (kArr c v A5 n5 c5) := Blk.new _ _ _
  have hm1 := (Mod.refl Nil w).alloc (.cells (kArr c v A5 n5 c5) 41)
  have HF0 := Lib.hid hf
  have HX := Lib.hid hx
  obtain ⟨n, hnn⟩ : ∃ n, c.ins.length = n := ⟨_, rfl⟩
  clear hf hx
  refine sl_enter (n := 113) (fn := Tryd.f16) (c := hgtBody) Tryd.func16 rfl rfl (by simp) fun ac HF => ?_
  conv => arg 2; whnf
  refine wp_seq (wp_region_lit ?_)
  refine sl_op HF rfl rfl (by decide) ?_; intro K hK; have e0 := HF.see 0 rfl; go_wp2_with fail; clear e0 HF; intro _ HF
  refine sl_const HF rfl rfl (.inr rfl) (by decide) ?_; clear HF; intro _ HF
  refine sl_const HF rfl rfl (.inr rfl) (by decide) ?_; clear HF; intro _ HF
  refine sl_const HF rfl rfl (.inr rfl) (by decide) ?_; clear HF; intro _ HF
  generalize w.alloc (.cells (kArr c v A5 n5 c5) 41) = w1 at hbk hm1 ⊢
  generalize w.heap.size = g1 at hbk HF
  have HBK := Lib.hid hbk
  have HM1 := Lib.hid hm1
  obtain ⟨k0, k1, k2, k3, k4, k5, k6⟩ := k_boxed hbk
  rw [hnn] at k3
  clear hbk hm1 k0 k1 k2 k4 k5 k6
  refine sl_nil (wp_seq (wp_region_lit ?_))
  refine sl_op HF rfl rfl (by decide) ?_; intro K hK; have e1 := HF.see 1 rfl; go_wp2_with fail; clear e1 HF; intro _ HF
  refine sl_op HF rfl rfl (by decide) ?_; intro K hK; have e15 := HF.see 15 rfl; go_wp2_with fail; clear e15 HF; intro _ HF
  refine sl_op HF rfl rfl (by decide) ?_; intro K hK; have e16 := HF.see 16 rfl; go_wp2_with fail; clear e16 HF; intro _ HF
  refine sl_move HF rfl rfl (.inr rfl) (by decide) rfl ?_; clear HF; intro _ HF
  clear k3
  refine sl_nil (wp_seq (wp_region_lit ?_))
  refine sl_op HF rfl rfl (by decide) ?_; intro K hK; go_wp2_with fail; clear HF; intro _ HF
  refine sl_move HF rfl rfl (.inl rfl) (by decide) rfl ?_; clear HF; intro _ HF
  refine sl_op HF rfl rfl (by decide) ?_; intro K hK; have e19 := HF.see 19 rfl; go_wp2_with fail; clear e19 HF; intro _ HF
  have hb2 : Blk (w1.alloc (.cells #[.int .i64 (-1)] 3)) w1.heap.size 3 #[.int .i64 (-1)] := Blk.new _ _ _
  have hm2 := HM1.out.alloc (.cells #[.int .i64 (-1)] 3)
  generalize w1.alloc (.cells #[.int .i64 (-1)] 3) = w2 at hb2 hm2 ⊢
  generalize w1.heap.size = g2 at hb2 HF
  have hrp := repeat_any ⟨g2, 0, none⟩ 1 n (-1) w2 (by omega) (by omega) hb2.lt (hb2.cell 0)
  have HRP := Lib.hid hrp
  have HM2 := Lib.hid hm2
  clear hb2 hm2 hrp
  refine sl_op HF rfl rfl (by decide) ?_; intro K hK; have e18 := HF.see 18 rfl; have e20 := HF.see 20 rfl; go_wp2_with fail
  refine HRP.out.mono ?_
  rintro e w3 ⟨g, rfl, hg, hb3, hm3⟩
  have HB3 := Lib.hid hb3
  have HM3 := Lib.hid (HM2.out.trans hm3)
  have HG := Lib.hid (Nat.le_trans HM2.out.size hg)
  clear hb3 hm3 hg
  go_wp2_with fail; clear e18 e20 HF; intro _ HF
  refine sl_move HF rfl rfl (.inr rfl) (by decide) rfl ?_; clear HF; intro _ HF
  refine sl_nil (wp_seq (wp_seq (wp_region_lit ?_)))
  have hq0 : ((n : Int) == 0) = false := by simp; omega
  refine sl_move HF rfl rfl (.inl rfl) (by decide) rfl ?_; clear HF; intro _ HF
  refine sl_op HF rfl rfl (by decide) ?_; intro K hK; have e22 := HF.see 22 rfl; go_wp2_with fail; clear e22 HF; intro _ HF
  refine sl_op HF rfl rfl (by decide) ?_; intro K hK; have e23 := HF.see 23 rfl; go_wp2_with fail; clear e23 HF; intro _ HF
  refine sl_nil (wp_cond_false (HF.at 24 rfl) (wp_skip (sl_then (wp_seq (wp_region_lit ?_)))))
  have hc3 : w3.cell? ⟨g, 0, none⟩ = some (.int .i64 (-1)) := by
    rw [HB3.out.cell 0, Array.getElem?_replicate, if_pos (by omega)]
  have hf3 : w3.frozen? ⟨g, 0, none⟩ = false := HB3.out.frozen 0
  have h0n : 0 < n := by omega
  refine sl_move HF rfl rfl (.inl rfl) (by decide) rfl ?_; clear HF; intro _ HF
  refine sl_op HF rfl rfl (by decide) ?_; intro K hK; have e25 := HF.see 25 rfl; go_wp2_with fail; clear e25 HF; intro _ HF
  refine sl_op0 HF rfl rfl ?_; intro K hK; have e26 := HF.see 26 rfl; go_wp2_with fail; clear e26 HF; intro _ HF
  have hb4 : Blk (w3.setCell ⟨g, 0, none⟩ (.int .i64 0)) g 3 (((List.replicate n (-1 : Int)).set 0 0).map iv).toArray := by
    have := HB3.out.set_ 0 (.int .i64 0)
    rw [← iv_set]
    simpa [iv] using this
  have hm4 := HM3.out.set (p := ⟨g, 0, none⟩) (.inr HG.out) (.int .i64 0)
  generalize w3.setCell ⟨g, 0, none⟩ (.int .i64 0) = w4 at hb4 hm4 ⊢
  have HB4 := Lib.hid hb4
  have HM4 := Lib.hid hm4
  clear hc3 hf3 hb4 hm4 HB3
  refine sl_nil (wp_seq (wp_region_lit ?_))
  refine sl_const HF rfl rfl (.inr rfl) (by decide) ?_; clear HF; intro _ HF
  refine sl_nil (wp_seq (wp_seq (wp_region_lit ?_)))
  refine sl_op HF rfl rfl (by decide) ?_; intro K hK; go_wp2_with fail; clear HF; intro _ HF
  refine sl_move HF rfl rfl (.inr rfl) (by decide) rfl ?_; clear HF; intro _ HF
  have hb5 := HB4.out.keep ((Mod.refl Nil w4).alloc (.cells #[.int .i64 0] 3)) id
  have hm5 := HM4.out.alloc (.cells #[.int .i64 0] 3)
  have hq5 : QRow (w4.alloc (.cells #[.int .i64 0] 3)) (g + 1) 3 (.slice (some ⟨w4.heap.size, 0, none⟩) 1 1) 1 [iv 0] :=
    ⟨rfl, .inr ⟨w4.heap.size, 0, 1, #[.int .i64 0], rfl, HB4.out.lt, heap_alloc_new w4 _, Nat.le_refl _, by decide, by simp, fun j u hj => by
      rcases j with _ | j
      · cases hj; rfl
      · cases hj⟩⟩
  generalize w4.alloc (.cells #[.int .i64 0] 3) = w5 at hb5 hm5 hq5 ⊢
  generalize (Value.slice (some ⟨w4.heap.size, 0, none⟩) 1 1) = tv5 at hq5 HF
  have HF6 := HF.keep [5, 6, 7, 8]
  simp only [pick, look] at HF6
  rw [← hnn] at HF6
  clear HF
  have HI := HInv.init (ins := c.ins) hn1
  have hsz0 : 2 * unk ((List.replicate n (-1 : Int)).set 0 0) + [0].length ≤ 100000 := by
    have : unk ((List.replicate n (-1 : Int)).set 0 0) ≤ _ := List.countP_le_length
    simp at this ⊢
    omega
  rw [hnn] at HI
  refine sl_nil (wp_block (wp_loop (HgI c v w g) (hmsr g) ⟨_, [0], 0, tv5, HF6, HI, hb5, hq5, hm5, hsz0⟩ ?_))
  clear HF6 HI hb5 hm5 hq5 HB4 HM4 HRP HM2 HM3 hq0 h0n HBK HM1
  obtain ⟨A2, c2, A3, c3, A4, c4⟩ := v
  obtain ⟨x0, hx0⟩ : ∃ x, c.ins[0]? = some x := ⟨_, List.getElem?_eq_getElem (by omega)⟩
  obtain ⟨ad, hA3⟩ : ∃ ad, A3 = some ad := ⟨_, (eqIns_at (HF0.out w (Mod.refl _ _)).r3 hx0).choose_spec.1⟩
  subst hA3
  clear hx0 x0
  rintro ac2 w6 ⟨o, q, most, tv, HF, hi, hb, hq, hm, hsz⟩
  simp only [hnn] at HF
  have HSZ := Lib.hid hsz
  have HI := Lib.hid hi
  have HQ := Lib.hid hq
  have HB := Lib.hid hb
  have HM := Lib.hid hm
  have HMS := Lib.hid (show hmsr g ac2 w6 = 2 * unk o + q.length by
    unfold hmsr
    rw [negs_eq hb, HF.at 8 rfl]
    obtain ⟨_, ⟨rfl, h0⟩ | ⟨g', off, cap, cur, rfl, _⟩⟩ := hq
    · rw [h0]; rfl
    · rfl)
  rcases q with _ | ⟨i, q⟩
  · obtain ⟨A, cp, rfl⟩ : ∃ A cp, tv = .slice A 0 cp := by
      obtain ⟨_, ⟨rfl, h0⟩ | ⟨g', off, cap, cur, rfl, _⟩⟩ := hq
      · exact ⟨_, _, rfl⟩
      · exact ⟨_, _, rfl⟩
    clear hi hq hb hm hsz
    refine wp_seq (wp_seq (wp_region_lit ?_))
    refine sl_move HF rfl rfl (.inl rfl) (by decide) rfl ?_; clear HF; intro _ HF
    refine sl_op HF rfl rfl (by decide) ?_; intro K hK; have e28 := HF.see 28 rfl; go_wp2_with fail; clear e28 HF; intro _ HF
    refine sl_op HF rfl rfl (by decide) ?_; intro K hK; have e29 := HF.see 29 rfl; go_wp2_with fail; clear e29 HF; intro _ HF
    refine sl_nil (wp_cond_false (HF.at 30 rfl) (wp_exit ?_))
    dsimp only [Exit.then]
    refine sl_exit (sl_then (wp_seq (wp_region_lit ?_)))
    refine sl_move HF rfl rfl (.inl rfl) (by decide) rfl ?_; clear HF; intro _ HF
    refine sl_move HF rfl rfl (.inl rfl) (by decide) rfl ?_; clear HF; intro _ HF
    refine sl_move HF rfl rfl (.inr rfl) (by decide) rfl ?_; clear HF; intro _ HF
    refine sl_move HF rfl rfl (.inr rfl) (by decide) rfl ?_; clear HF; intro _ HF
    refine sl_const HF rfl rfl (.inr rfl) (by decide) ?_; clear HF; intro _ HF
    obtain ⟨h1, h2⟩ := HI.out.fits
    refine sl_nil (wp_ret (sl_ret3 HF rfl rfl rfl rfl ⟨HM.out, .inl ⟨g, o, most, by rw [hnn], HG.out, HB.out, HI.out.len, h1, h2⟩⟩))
  · have hl : (i :: q).length = q.length + 1 := rfl
    obtain ⟨g', off, cap, rfl, hc1, hc2, hgg, hg2, hcell⟩ := hq.rd (by simp)
    have hcl : w6.cell? ⟨g', off + 0, none⟩ = some (.int .i64 (i : Nat)) := hcell 0 _ rfl
    obtain ⟨hat, hs⟩ := hi.que i (by simp)
    obtain ⟨hs1, hs2⟩ := seen_some.1 hs
    have hat4 : hat ≤ 4000 := by rcases hi.rng i hat hs1 with h | h <;> omega
    have hin : i < n := by have := seen_lt hs; rw [hi.len, hnn] at this; exact this
    obtain ⟨x, hxi⟩ : ∃ x, c.ins[i]? = some x := ⟨_, List.getElem?_eq_getElem (by omega)⟩
    have HT := Lib.hid hq.tail
    have HS := Lib.hid hs
    have HXI := Lib.hid hxi
    simp only [Nat.add_zero] at hcl
    simp only [List.length_cons] at HF hc1
    generalize hqn : q.length = qn at HF hc1 HT
    have HQN := Lib.hid hqn
    clear hi hq hb hm hsz hcell hs hs1 hl hqn
    have hpos : decide (0 < ((qn + 1 : Nat) : Int)) = true := by simp
    refine wp_seq (wp_seq (wp_region_lit ?_))
    refine sl_move HF rfl rfl (.inl rfl) (by decide) rfl ?_; clear HF; intro _ HF
    refine sl_op HF rfl rfl (by decide) ?_; intro K hK; have e28 := HF.see 28 rfl; go_wp2_with fail; clear e28 HF; intro _ HF
    refine sl_op HF rfl rfl (by decide) ?_; intro K hK; have e29 := HF.see 29 rfl; go_wp2_with fail; clear e29 HF; intro _ HF
    refine sl_nil (wp_cond_true (HF.at 30 rfl) (wp_skip (sl_then (wp_block (wp_seq (wp_region_lit ?_))))))
    refine sl_move HF rfl rfl (.inl rfl) (by decide) rfl ?_; clear HF; intro _ HF
    refine sl_op HF rfl rfl (by decide) ?_; intro K hK; have e31 := HF.see 31 rfl; go_wp2_with fail; clear e31 HF; intro _ HF
    refine sl_op HF rfl rfl (by decide) ?_; intro K hK; have e32 := HF.see 32 rfl; go_wp2_with fail; clear e32 HF; intro _ HF
    refine sl_move HF rfl rfl (.inr rfl) (by decide) rfl ?_; clear HF; intro _ HF
    refine sl_nil (wp_seq (wp_region_lit ?_))
    refine sl_move HF rfl rfl (.inl rfl) (by decide) rfl ?_; clear HF; intro _ HF
    obtain ⟨off', hoff⟩ : ∃ off', off' = if cap = 1 then off else off + 1 := ⟨_, rfl⟩
    have hqt : QRow w6 (g + 1) 3 (.slice (some ⟨g', off', none⟩) qn (cap - 1)) qn (q.map fun (i : Nat) => iv i) := by
      rw [hoff]
      split
      · rename_i h; exact HT.out.1 h
      · exact HT.out.2
    have HQT := Lib.hid hqt
    have HOFF := Lib.hid hoff
    clear hqt hoff HT HQ
    refine sl_op HF rfl rfl (by decide) ?_; intro K hK; have e34 := HF.see 34 rfl
    have hcap1 : 1 ≤ cap := by omega
    refine (fun hk1 => ?_) (hK (.slice (some ⟨g', off', none⟩) qn (cap - 1)) w6 ?rest)
    · clear hK
      have ho := HOFF.out
      by_cases hc : cap = 1
      · subst hc
        obtain rfl : qn = 0 := by omega
        rw [if_pos rfl] at ho
        subst ho
        go_wp2_with fail
        exact hk1
      · rw [if_neg hc] at ho
        subst ho
        go_wp2_with fail
        exact hk1
    clear e34 hK HF
    intro _ HF
    refine sl_move HF rfl rfl (.inr rfl) (by decide) rfl ?_; clear HF; intro _ HF
    clear HOFF
    refine sl_nil (wp_seq (wp_region_lit ?_))
    have hrow := HF0.out w6 HM.out
    obtain ⟨ad', had, hadl, a0, a1, a2⟩ := eqIns_at hrow.r3 hxi
    have hok := hrow.oki x (List.mem_of_getElem? hxi)
    simp only at had
    injection had with had
    subst had
    have hfit := HX.out x (List.mem_of_getElem? hxi)
    have HEF := Lib.hid (effect_any x w6 hok (fun ho => by
      have h3 := hfit.2.2.2
      unfold insTakes at h3
      rcases ho with ho | ho <;> rw [ho] at h3 <;> simp at h3 <;> omega))
    have HFIT := Lib.hid hfit
    have hc3 : n ≤ c3 := by have := hrow.n3; simp only at this; omega
    have hc3m : c3 ≤ 9223372036854775807 := hrow.m3
    clear hrow hok hfit hxi
    obtain ⟨xo, xa, xb⟩ := x
    refine sl_move HF rfl rfl (.inl rfl) (by decide) rfl ?_; clear HF; intro _ HF
    refine sl_move HF rfl rfl (.inl rfl) (by decide) rfl ?_; clear HF; intro _ HF
    refine sl_op HF rfl rfl (by decide) ?_; intro K hK; have e37 := HF.see 37 rfl; have e38 := HF.see 38 rfl; go_wp2_with fail; clear e37 e38 HF; intro _ HF
    refine sl_op HF rfl rfl (by decide) ?_; intro K hK; have e39 := HF.see 39 rfl; go_wp2_with fail; clear e39 HF; intro _ HF
    refine sl_op HF rfl rfl (by decide) ?_; intro K hK; have e40 := HF.see 40 rfl; go_wp2_with fail
    refine HEF.out.mono ?_
    rintro e w7 ⟨rfl, hm7⟩
    have HM7 := Lib.hid (HM.out.trans hm7)
    have HB7 := Lib.hid (HB.out.keep hm7 id)
    have HQ7 := Lib.hid (HQT.out.keep hm7 (fun _ h => h.elim))
    obtain ⟨tk, htk⟩ : ∃ tk, insTakes ⟨xo, xa, xb⟩ = tk := ⟨_, rfl⟩
    obtain ⟨pu, hpu⟩ : ∃ pu, effPuts xo = pu := ⟨_, rfl⟩
    have hpu2 : 0 ≤ pu ∧ pu ≤ 1 := by rw [← hpu]; unfold effPuts; split <;> omega
    obtain ⟨hpu0, hpu1⟩ := hpu2
    have htk0 : 0 ≤ tk := by rw [← htk]; exact HFIT.out.2.2.1
    have htk1 : tk ≤ 3000000 := by rw [← htk]; exact HFIT.out.2.2.2
    have HNX := Lib.hid (show insNext ⟨xo, xa, xb⟩ hat = hat - tk + pu by rw [← htk, ← hpu]; rfl)
    rw [htk, hpu]
    have HTK := Lib.hid htk
    clear hm7 htk hpu HEF a0 a1 a2 HM HB HQT
    go_wp2_with fail; clear e40 HF; intro _ HF
    refine sl_move HF rfl rfl (.inl rfl) (by decide) rfl ?_; clear HF; intro _ HF
    refine sl_op HF rfl rfl (by decide) ?_; intro K hK; have e36 := HF.see 36 rfl; go_wp2_with fail; clear e36 HF; intro _ HF
    refine sl_op HF rfl rfl (by decide) ?_; intro K hK; have e36 := HF.see 36 rfl; go_wp2_with fail; clear e36 HF; intro _ HF
    refine sl_move HF rfl rfl (.inr rfl) (by decide) rfl ?_; clear HF; intro _ HF
    refine sl_move HF rfl rfl (.inr rfl) (by decide) rfl ?_; clear HF; intro _ HF
    refine sl_nil (wp_seq (wp_region_lit ?_))
    have hci : w7.cell? ⟨g, i, none⟩ = some (.int .i64 hat) := by
      rw [HB7.out.cell i, List.getElem?_toArray, List.getElem?_map, (seen_some.1 HS.out).1]
      rfl
    refine sl_move HF rfl rfl (.inl rfl) (by decide) rfl ?_; clear HF; intro _ HF
    refine sl_move HF rfl rfl (.inl rfl) (by decide) rfl ?_; clear HF; intro _ HF
    refine sl_op HF rfl rfl (by decide) ?_; intro K hK; have e44 := HF.see 44 rfl; have e45 := HF.see 45 rfl; go_wp2_with fail; clear e44 e45 HF; intro _ HF
    refine sl_op HF rfl rfl (by decide) ?_; intro K hK; have e46 := HF.see 46 rfl; go_wp2_with fail; clear e46 HF; intro _ HF
    refine sl_move HF rfl rfl (.inl rfl) (by decide) rfl ?_; clear HF; intro _ HF
    refine sl_op HF rfl rfl (by decide) ?_; intro K hK; have e47 := HF.see 47 rfl; have e48 := HF.see 48 rfl; go_wp2_with fail; clear e47 e48 HF; intro _ HF
    refine sl_move HF rfl rfl (.inl rfl) (by decide) rfl ?_; clear HF; intro _ HF
    refine sl_op HF rfl rfl (by decide) ?_; intro K hK; have e49 := HF.see 49 rfl; have e50 := HF.see 50 rfl; go_wp2_with fail; clear e49 e50 HF; intro _ HF
    refine sl_move HF rfl rfl (.inr rfl) (by decide) rfl ?_; clear HF; intro _ HF
    refine sl_nil (wp_seq (wp_region_lit ?_))
    refine sl_move HF rfl rfl (.inl rfl) (by decide) rfl ?_; clear HF; intro _ HF
    refine sl_move HF rfl rfl (.inl rfl) (by decide) rfl ?_; clear HF; intro _ HF
    refine sl_move HF rfl rfl (.inl rfl) (by decide) rfl ?_; clear HF; intro _ HF
    refine sl_op HF rfl rfl (by decide) ?_; intro K hK; have e53 := HF.see 53 rfl; have e54 := HF.see 54 rfl; go_wp2_with fail; clear e53 e54 HF; intro _ HF
    refine sl_op HF rfl rfl (by decide) ?_; intro K hK; have e55 := HF.see 55 rfl; go_wp2_with fail; clear e55 HF; intro _ HF
    refine sl_move HF rfl rfl (.inl rfl) (by decide) rfl ?_; clear HF; intro _ HF
    refine sl_op HF rfl rfl (by decide) ?_; intro K hK; have e52 := HF.see 52 rfl; have e56 := HF.see 56 rfl; have e57 := HF.see 57 rfl
    refine op_max3 rfl e52 e56 e57 fun most' hmx1 hmx2 hmx3 hmx4 => ?_
    have HMX := Lib.hid (And.intro hmx1 (And.intro hmx2 (And.intro hmx3 hmx4)))
    clear hmx1 hmx2 hmx3 hmx4
    go_wp2_with fail; clear e52 e56 e57 HF; intro _ HF
    refine sl_move HF rfl rfl (.inr rfl) (by decide) rfl ?_; clear HF; intro _ HF
    by_cases hb1 : hat < tk
    · have hd1 : decide (hat < tk) = true := by simpa using hb1
      have HBAD := Lib.hid (HI.out.bad_take HS.out HXI.out (.inl (by rw [HTK.out]; exact hb1)))
      refine sl_nil (wp_seq (wp_seq (wp_region_lit ?_)))
      refine sl_move HF rfl rfl (.inl rfl) (by decide) rfl ?_; clear HF; intro _ HF
      refine sl_move HF rfl rfl (.inl rfl) (by decide) rfl ?_; clear HF; intro _ HF
      refine sl_op HF rfl rfl (by decide) ?_; intro K hK; have e59 := HF.see 59 rfl; have e60 := HF.see 60 rfl; go_wp2_with fail; clear e59 e60 HF; intro _ HF
      refine sl_op HF rfl rfl (by decide) ?_; intro K hK; have e61 := HF.see 61 rfl; go_wp2_with fail; clear e61 HF; intro _ HF
      refine sl_move HF rfl rfl (.inl rfl) (by decide) rfl ?_; clear HF; intro _ HF
      refine sl_op HF rfl rfl (by decide) ?_; intro K hK; have e62 := HF.see 62 rfl; have e63 := HF.see 63 rfl; go_wp2_with fail; clear e62 e63 HF; intro _ HF
      refine sl_move HF rfl rfl (.inl rfl) (by decide) rfl ?_; clear HF; intro _ HF
      refine sl_skip HF rfl rfl rfl rfl (by decide) ?_; clear HF; intro _ HF
      refine sl_skip HF rfl rfl rfl rfl (by decide) ?_; clear HF; intro _ HF
      refine sl_op HF rfl rfl (by decide) ?_; intro K hK; have e65 := HF.see 65 rfl; have e67 := HF.see 67 rfl; go_wp2_with fail; clear e65 e67 HF; intro _ HF
      refine sl_nil (wp_cond_true (HF.at 68 rfl) (wp_seq (wp_region_lit ?_)))
      refine sl_const HF rfl rfl (.inr rfl) (by decide) ?_; clear HF; intro _ HF
      refine sl_const HF rfl rfl (.inr rfl) (by decide) ?_; clear HF; intro _ HF
      refine sl_const HF rfl rfl (.inr rfl) (by decide) ?_; clear HF; intro _ HF
      refine sl_nil (wp_ret ?_)
      dsimp only [Exit.then, Exit.inBlock]
      exact sl_ret3 HF rfl rfl rfl rfl ⟨HM7.out, .inr ⟨rfl, HBAD.out⟩⟩
    have hd1 : decide (hat < tk) = false := by simpa using hb1
    by_cases hb2 : 4000 < hat - tk + pu
    · have hd2 : decide (4000 < hat - tk + pu) = true := by simpa using hb2
      have HBAD := Lib.hid (HI.out.bad_take HS.out HXI.out (.inr (by rw [HNX.out]; exact hb2)))
      refine sl_nil (wp_seq (wp_seq (wp_region_lit ?_)))
      refine sl_move HF rfl rfl (.inl rfl) (by decide) rfl ?_; clear HF; intro _ HF
      refine sl_move HF rfl rfl (.inl rfl) (by decide) rfl ?_; clear HF; intro _ HF
      refine sl_op HF rfl rfl (by decide) ?_; intro K hK; have e59 := HF.see 59 rfl; have e60 := HF.see 60 rfl; go_wp2_with fail; clear e59 e60 HF; intro _ HF
      refine sl_op HF rfl rfl (by decide) ?_; intro K hK; have e61 := HF.see 61 rfl; go_wp2_with fail; clear e61 HF; intro _ HF
      refine sl_move HF rfl rfl (.inl rfl) (by decide) rfl ?_; clear HF; intro _ HF
      refine sl_op HF rfl rfl (by decide) ?_; intro K hK; have e62 := HF.see 62 rfl; have e63 := HF.see 63 rfl; go_wp2_with fail; clear e62 e63 HF; intro _ HF
      refine sl_move HF rfl rfl (.inl rfl) (by decide) rfl ?_; clear HF; intro _ HF
      refine sl_want HF rfl rfl rfl rfl (by decide) ?_; intro K hK; have e12 := HF.see 12 rfl; go_wp2_with fail; clear e12 HF; intro _ HF
      refine sl_want HF rfl rfl rfl rfl (by decide) ?_; intro K hK; have e66 := HF.see 66 rfl; go_wp2_with fail; clear e66 HF; intro _ HF
      refine sl_op HF rfl rfl (by decide) ?_; intro K hK; have e65 := HF.see 65 rfl; have e67 := HF.see 67 rfl; go_wp2_with fail; clear e65 e67 HF; intro _ HF
      refine sl_nil (wp_cond_true (HF.at 68 rfl) (wp_seq (wp_region_lit ?_)))
      refine sl_const HF rfl rfl (.inr rfl) (by decide) ?_; clear HF; intro _ HF
      refine sl_const HF rfl rfl (.inr rfl) (by decide) ?_; clear HF; intro _ HF
      refine sl_const HF rfl rfl (.inr rfl) (by decide) ?_; clear HF; intro _ HF
      refine sl_nil (wp_ret ?_)
      dsimp only [Exit.then, Exit.inBlock]
      exact sl_ret3 HF rfl rfl rfl rfl ⟨HM7.out, .inr ⟨rfl, HBAD.out⟩⟩
    have hd2 : decide (4000 < hat - tk + pu) = false := by simpa using hb2
    refine sl_nil (wp_seq (wp_seq (wp_region_lit ?_)))
    refine sl_move HF rfl rfl (.inl rfl) (by decide) rfl ?_; clear HF; intro _ HF
    refine sl_move HF rfl rfl (.inl rfl) (by decide) rfl ?_; clear HF; intro _ HF
    refine sl_op HF rfl rfl (by decide) ?_; intro K hK; have e59 := HF.see 59 rfl; have e60 := HF.see 60 rfl; go_wp2_with fail; clear e59 e60 HF; intro _ HF
    refine sl_op HF rfl rfl (by decide) ?_; intro K hK; have e61 := HF.see 61 rfl; go_wp2_with fail; clear e61 HF; intro _ HF
    refine sl_move HF rfl rfl (.inl rfl) (by decide) rfl ?_; clear HF; intro _ HF
    refine sl_op HF rfl rfl (by decide) ?_; intro K hK; have e62 := HF.see 62 rfl; have e63 := HF.see 63 rfl; go_wp2_with fail; clear e62 e63 HF; intro _ HF
    refine sl_move HF rfl rfl (.inl rfl) (by decide) rfl ?_; clear HF; intro _ HF
    refine sl_want HF rfl rfl rfl rfl (by decide) ?_; intro K hK; have e12 := HF.see 12 rfl; go_wp2_with fail; clear e12 HF; intro _ HF
    refine sl_want HF rfl rfl rfl rfl (by decide) ?_; intro K hK; have e66 := HF.see 66 rfl; go_wp2_with fail; clear e66 HF; intro _ HF
    refine sl_op HF rfl rfl (by decide) ?_; intro K hK; have e65 := HF.see 65 rfl; have e67 := HF.see 67 rfl; go_wp2_with fail; clear e65 e67 HF; intro _ HF
    refine sl_nil (wp_cond_false (HF.at 68 rfl) (wp_skip (sl_then (wp_seq (wp_region_lit ?_)))))
    obtain ⟨nx, hnx⟩ : ∃ nx, hat - tk + pu = nx := ⟨_, rfl⟩
    rw [hnx] at HF HNX HMX hb2
    have hnx0 : 0 ≤ nx := by omega
    have HGO := Lib.hid (fun w' => goes_any i ⟨xo, xa, xb⟩ w' (by omega) (by omega))
    obtain ⟨ad', had, hadl', a0, a1, a2⟩ := eqIns_at (HF0.out w7 HM7.out).r3 HXI.out
    simp only at had
    injection had with had
    subst had
    have HF2 := HF.keep [5, 6, 7, 8, 9, 12]
    simp only [pick, look] at HF2
    clear hd1 hd2 HF
    replace HF := HF2
    clear HF2
    refine sl_move HF rfl rfl (.inl rfl) (by decide) rfl ?_; clear HF; intro _ HF
    refine sl_move HF rfl rfl (.inl rfl) (by decide) rfl ?_; clear HF; intro _ HF
    refine sl_move HF rfl rfl (.inl rfl) (by decide) rfl ?_; clear HF; intro _ HF
    refine sl_op HF rfl rfl (by decide) ?_; intro K hK; have e70 := HF.see 70 rfl; have e71 := HF.see 71 rfl; go_wp2_with fail; clear e70 e71 HF; intro _ HF
    refine sl_op HF rfl rfl (by decide) ?_; intro K hK; have e72 := HF.see 72 rfl; go_wp2_with fail; clear e72 HF; intro _ HF
    refine sl_op HF rfl rfl (by decide) ?_; intro K hK; have e69 := HF.see 69 rfl; have e73 := HF.see 73 rfl; go_wp2_with fail
    refine (HGO.out w7).mono ?_
    rintro e w8 ⟨A, cg, rfl, hcg1, hcg2, hrd, hm8⟩
    have HM8 := Lib.hid (HM7.out.trans hm8)
    have HB8 := Lib.hid (HB7.out.keep hm8 id)
    have HQ8 := Lib.hid (HQ7.out.keep hm8 (fun _ h => h.elim))
    have hg7 := HB7.out.lt
    have hql7 := HQ7.out.lt
    have HRD := Lib.hid (hrd.mono (S' := fun b => g < b ∧ (Value.slice (some ⟨g', off', none⟩) qn (cap - 1)).ownBlock ≠ some b) fun b _ hb => ⟨Nat.lt_of_lt_of_le hg7 hb, fun he => by have := (hql7 b he).2; omega⟩)
    have hgl := goesL_len i ⟨xo, xa, xb⟩
    have HCG := Lib.hid hcg1
    clear hm8 hrd HGO HB7 HQ7 HM7 a0 a1 a2
    generalize hmm : (goesL i ⟨xo, xa, xb⟩).length = m at hcg1 hgl
    go_wp2_with fail; clear e69 e73 HF; intro _ HF
    refine sl_op HF rfl rfl (by decide) ?_; intro K hK; have e74 := HF.see 74 rfl; go_wp2_with fail; clear e74 HF; intro _ HF
    refine sl_const HF rfl rfl (.inl rfl) (by decide) ?_; clear HF; intro _ HF
    have HF2 := HF.keep [5, 6, 7, 8, 9, 12, 74, 75, 76]
    simp only [pick, look] at HF2
    have HPOP := HI.out.pop HS.out HXI.out (most' := most') HMX.out.1 (by rw [HNX.out]; rcases HMX.out.2.2.2 with h | h | h <;> simp [h])
    refine sl_nil (wp_block (wp_loop (HgJ c.ins ad c3 n w g i hat nx ⟨xo, xa, xb⟩ most' A cg (2 * unk o + qn)) (fun ac _ => m - (intOf (ac.eval (.tmp 76))).toNat) ?start ?round))
    case start =>
      rw [← hmm] at HF2
      refine ⟨o, q, _, 0, HF2, HPOP, HS.out, Nat.zero_le _, fun j t hj => absurd hj (by omega), by rw [HQN.out]; exact Nat.le_refl _, HB8.out, by rw [HQN.out]; exact HQ8.out, HM8.out, HRD.out⟩
    case round =>
      clear HF HF2 HB8 HQ8 HM8 HRD HPOP hci hcl hpos
      rintro ac3 w9 ⟨o3, q3, tv3, k, HF, hi, hs, hkm, hth, hM, hb, hq, hm, hrd⟩
      rw [hmm] at HF hkm
      have HMU := Lib.hid (show m - (intOf ((ac3.tmps[76]?).getD undef)).toNat = m - k by rw [HF.see 76 rfl]; simp [intOf])
      have HI3 := Lib.hid hi
      have HS3 := Lib.hid hs
      have HTH := Lib.hid hth
      have HM3' := Lib.hid hM
      have HB3 := Lib.hid hb
      have HQ3 := Lib.hid hq
      have HMM := Lib.hid hm
      have HRD := Lib.hid hrd
      clear hi hs hth hM hb hq hm hrd
      by_cases hlt : k < m
      · have hd : decide ((k : Int) < (m : Int)) = true := by simp; omega
        obtain ⟨t, ht⟩ : ∃ t, (goesL i ⟨xo, xa, xb⟩)[k]? = some t := ⟨_, List.getElem?_eq_getElem (by omega)⟩
        have htm := List.mem_of_getElem? ht
        obtain ⟨adA, hAA, _, hal, hca⟩ := HRD.out.at_ (k := k) (u := iv t) (by rw [List.getElem?_map, ht]; rfl)
        subst hAA
        have hca' : w9.cell? (adA.add k) = some (.int .i64 t) := hca
        have HTT := Lib.hid ht
        have HTM := Lib.hid htm
        clear hca ht htm
        refine wp_seq (wp_region_lit ?_)
        refine sl_op HF rfl rfl (by decide) ?_; intro K hK; have e76 := HF.see 76 rfl; have e75 := HF.see 75 rfl; go_wp2_with fail; clear e76 e75 HF; intro _ HF
        refine sl_nil (wp_seq (wp_cond_true (HF.at 77 rfl) (wp_skip (sl_then (wp_seq (wp_block (wp_seq (wp_region_lit ?_))))))))
        refine sl_op HF rfl rfl (by decide) ?_; intro K hK; have e74 := HF.see 74 rfl; have e76 := HF.see 76 rfl; go_wp2_with fail; clear e74 e76 HF; intro _ HF
        refine sl_op HF rfl rfl (by decide) ?_; intro K hK; have e78 := HF.see 78 rfl; go_wp2_with fail; clear e78 HF; intro _ HF
        refine sl_move HF rfl rfl (.inr rfl) (by decide) rfl ?_; clear HF; intro _ HF
        clear hca' hd
        by_cases ht0 : t < 0
        · have hd0 : decide (t < 0) = true := by simpa using ht0
          have HBAD := Lib.hid (HI3.out.bad_far HS3.out HXI.out HTM.out (.inl ht0))
          refine sl_nil (wp_block (wp_seq (wp_region_lit ?_)))
          refine sl_move HF rfl rfl (.inl rfl) (by decide) rfl ?_; clear HF; intro _ HF
          refine sl_op HF rfl rfl (by decide) ?_; intro K hK; have e81 := HF.see 81 rfl; go_wp2_with fail; clear e81 HF; intro _ HF
          refine sl_move HF rfl rfl (.inl rfl) (by decide) rfl ?_; clear HF; intro _ HF
          refine sl_skip HF rfl rfl rfl rfl (by decide) ?_; clear HF; intro _ HF
          refine sl_skip HF rfl rfl rfl rfl (by decide) ?_; clear HF; intro _ HF
          refine sl_skip HF rfl rfl rfl rfl (by decide) ?_; clear HF; intro _ HF
          refine sl_skip HF rfl rfl rfl rfl (by decide) ?_; clear HF; intro _ HF
          refine sl_op HF rfl rfl (by decide) ?_; intro K hK; have e83 := HF.see 83 rfl; have e87 := HF.see 87 rfl; go_wp2_with fail; clear e83 e87 HF; intro _ HF
          refine sl_move HF rfl rfl (.inr rfl) (by decide) rfl ?_; clear HF; intro _ HF
          refine sl_nil (wp_cond_true (HF.at 80 rfl) (wp_seq (wp_region_lit ?_)))
          refine sl_const HF rfl rfl (.inr rfl) (by decide) ?_; clear HF; intro _ HF
          refine sl_const HF rfl rfl (.inr rfl) (by decide) ?_; clear HF; intro _ HF
          refine sl_const HF rfl rfl (.inr rfl) (by decide) ?_; clear HF; intro _ HF
          refine sl_nil (wp_ret ?_)
          dsimp only [Exit.then, Exit.inBlock]
          exact sl_ret3 HF rfl rfl rfl rfl ⟨HMM.out, .inr ⟨rfl, HBAD.out⟩⟩
        have hd0 : decide (t < 0) = false := by simpa using ht0
        by_cases htn : (n : Int) ≤ t
        · have hd1 : decide ((n : Int) ≤ t) = true := by simpa using htn
          have HBAD := Lib.hid (HI3.out.bad_far HS3.out HXI.out HTM.out (.inr (by rw [hnn]; exact htn)))
          refine sl_nil (wp_block (wp_seq (wp_region_lit ?_)))
          refine sl_move HF rfl rfl (.inl rfl) (by decide) rfl ?_; clear HF; intro _ HF
          refine sl_op HF rfl rfl (by decide) ?_; intro K hK; have e81 := HF.see 81 rfl; go_wp2_with fail; clear e81 HF; intro _ HF
          refine sl_move HF rfl rfl (.inl rfl) (by decide) rfl ?_; clear HF; intro _ HF
          refine sl_want HF rfl rfl rfl rfl (by decide) ?_; intro K hK; have e14 := HF.see 14 rfl; go_wp2_with fail; clear e14 HF; intro _ HF
          refine sl_want HF rfl rfl rfl rfl (by decide) ?_; intro K hK; have e5 := HF.see 5 rfl; go_wp2_with fail; clear e5 HF; intro _ HF
          refine sl_want HF rfl rfl rfl rfl (by decide) ?_; intro K hK; have e85 := HF.see 85 rfl; go_wp2_with fail; clear e85 HF; intro _ HF
          refine sl_want HF rfl rfl rfl rfl (by decide) ?_; intro K hK; have e84 := HF.see 84 rfl; have e86 := HF.see 86 rfl; go_wp2_with fail; clear e84 e86 HF; intro _ HF
          refine sl_op HF rfl rfl (by decide) ?_; intro K hK; have e83 := HF.see 83 rfl; have e87 := HF.see 87 rfl; go_wp2_with fail; clear e83 e87 HF; intro _ HF
          refine sl_move HF rfl rfl (.inr rfl) (by decide) rfl ?_; clear HF; intro _ HF
          refine sl_nil (wp_cond_true (HF.at 80 rfl) (wp_seq (wp_region_lit ?_)))
          refine sl_const HF rfl rfl (.inr rfl) (by decide) ?_; clear HF; intro _ HF
          refine sl_const HF rfl rfl (.inr rfl) (by decide) ?_; clear HF; intro _ HF
          refine sl_const HF rfl rfl (.inr rfl) (by decide) ?_; clear HF; intro _ HF
          refine sl_nil (wp_ret ?_)
          dsimp only [Exit.then, Exit.inBlock]
          exact sl_ret3 HF rfl rfl rfl rfl ⟨HMM.out, .inr ⟨rfl, HBAD.out⟩⟩
        have hd1 : decide ((n : Int) ≤ t) = false := by simpa using htn
        refine sl_nil (wp_block (wp_seq (wp_region_lit ?_)))
        refine sl_move HF rfl rfl (.inl rfl) (by decide) rfl ?_; clear HF; intro _ HF
        refine sl_op HF rfl rfl (by decide) ?_; intro K hK; have e81 := HF.see 81 rfl; go_wp2_with fail; clear e81 HF; intro _ HF
        refine sl_move HF rfl rfl (.inl rfl) (by decide) rfl ?_; clear HF; intro _ HF
        refine sl_want HF rfl rfl rfl rfl (by decide) ?_; intro K hK; have e14 := HF.see 14 rfl; go_wp2_with fail; clear e14 HF; intro _ HF
        refine sl_want HF rfl rfl rfl rfl (by decide) ?_; intro K hK; have e5 := HF.see 5 rfl; go_wp2_with fail; clear e5 HF; intro _ HF
        refine sl_want HF rfl rfl rfl rfl (by decide) ?_; intro K hK; have e85 := HF.see 85 rfl; go_wp2_with fail; clear e85 HF; intro _ HF
        refine sl_want HF rfl rfl rfl rfl (by decide) ?_; intro K hK; have e84 := HF.see 84 rfl; have e86 := HF.see 86 rfl; go_wp2_with fail; clear e84 e86 HF; intro _ HF
        refine sl_op HF rfl rfl (by decide) ?_; intro K hK; have e83 := HF.see 83 rfl; have e87 := HF.see 87 rfl; go_wp2_with fail; clear e83 e87 HF; intro _ HF
        refine sl_move HF rfl rfl (.inr rfl) (by decide) rfl ?_; clear HF; intro _ HF
        refine sl_nil (wp_cond_false (HF.at 80 rfl) (wp_seq (wp_region_lit ?_)))
        obtain ⟨tn, rfl⟩ : ∃ tn : Nat, t = tn := ⟨t.toNat, by omega⟩
        have htn' : tn < n := by omega
        obtain ⟨ot, hot⟩ : ∃ ot, o3[tn]? = some ot := ⟨_, List.getElem?_eq_getElem (by rw [HI3.out.len, hnn]; exact htn')⟩
        have hct : w9.cell? ⟨g, tn, none⟩ = some (.int .i64 ot) := by
          rw [HB3.out.cell tn, List.getElem?_toArray, List.getElem?_map, hot]
          rfl
        have hfz : w9.frozen? ⟨g, tn, none⟩ = false := HB3.out.frozen tn
        have hrg := HI3.out.rng tn ot hot
        have HOT := Lib.hid hot
        have HF2 := HF.keep [5, 6, 7, 8, 9, 12, 14, 74, 75, 76]
        simp only [pick, look] at HF2
        clear hot HF
        replace HF := HF2
        clear HF2
        refine sl_move HF rfl rfl (.inl rfl) (by decide) rfl ?_; clear HF; intro _ HF
        refine sl_move HF rfl rfl (.inl rfl) (by decide) rfl ?_; clear HF; intro _ HF
        refine sl_op HF rfl rfl (by decide) ?_; intro K hK; have e90 := HF.see 90 rfl; have e91 := HF.see 91 rfl; go_wp2_with fail; clear e90 e91 HF; intro _ HF
        refine sl_op HF rfl rfl (by decide) ?_; intro K hK; have e92 := HF.see 92 rfl; go_wp2_with fail; clear e92 HF; intro _ HF
        refine sl_op HF rfl rfl (by decide) ?_; intro K hK; have e93 := HF.see 93 rfl; go_wp2_with fail; clear e93 HF; intro _ HF
        refine sl_move HF rfl rfl (.inr rfl) (by decide) rfl ?_; clear HF; intro _ HF
        by_cases hun : ot = -1
        · have hq1 : (ot == -1) = true := by simpa using hun
          rw [hq1] at HF
          refine sl_nil (wp_cond_true (HF.at 89 rfl) (wp_seq (wp_region_lit ?_)))
          have hb10 : Blk (w9.setCell ⟨g, tn, none⟩ (.int .i64 nx)) g 3 ((o3.set tn nx).map iv).toArray := by
            rw [← iv_set]
            exact HB3.out.set_ tn _
          have hm10 := HMM.out.set (p := ⟨g, tn, none⟩) (.inr HG.out) (.int .i64 nx)
          have hmg : Mod (fun k => k = g) w9 (w9.setCell ⟨g, tn, none⟩ (.int .i64 nx)) := Mod.set (F := fun k => k = g) (Mod.refl _ w9) (p := ⟨g, tn, none⟩) (.inl rfl) _
          have hq10 := HQ3.out.keep hmg (fun k hk => by omega)
          have HRD10 := Lib.hid (HRD.out.keep hmg (fun b hb (he : b = g) => by have := hb.1; omega))
          have HB10 := Lib.hid hb10
          have HM10 := Lib.hid hm10
          have HQ10 := Lib.hid hq10
          clear hb10 hm10 hq10 hmg
          refine sl_move HF rfl rfl (.inl rfl) (by decide) rfl ?_; clear HF; intro _ HF
          refine sl_move HF rfl rfl (.inl rfl) (by decide) rfl ?_; clear HF; intro _ HF
          refine sl_move HF rfl rfl (.inl rfl) (by decide) rfl ?_; clear HF; intro _ HF
          refine sl_op HF rfl rfl (by decide) ?_; intro K hK; have e95 := HF.see 95 rfl; have e96 := HF.see 96 rfl; go_wp2_with fail; clear e95 e96 HF; intro _ HF
          refine sl_op0 HF rfl rfl ?_; intro K hK; have e98 := HF.see 98 rfl; have e97 := HF.see 97 rfl; go_wp2_with fail; clear e98 e97 HF; intro _ HF
          generalize w9.setCell ⟨g, tn, none⟩ (.int .i64 nx) = w10 at HB10 HM10 HQ10 HRD10 ⊢
          refine sl_nil (wp_region_lit ?_)
          refine sl_move HF rfl rfl (.inl rfl) (by decide) rfl ?_; clear HF; intro _ HF
          refine sl_move HF rfl rfl (.inl rfl) (by decide) rfl ?_; clear HF; intro _ HF
          refine sl_op HF rfl rfl (by decide) ?_; intro K hK; have e100 := HF.see 100 rfl; go_wp2_with fail; clear e100 HF; intro _ HF
          have hm11 := (Mod.refl Nil w10).alloc (.cells #[.int .i64 tn] 3)
          have HB11 := Lib.hid (HB10.out.keep hm11 id)
          have HQ11 := Lib.hid (HQ10.out.keep hm11 (fun _ h => h.elim))
          have HRD11 := Lib.hid (HRD10.out.keep0 hm11)
          have HM11 := Lib.hid (HM10.out.alloc (.cells #[.int .i64 tn] 3))
          have hnc : (w10.alloc (.cells #[.int .i64 tn] 3)).cell? ⟨w10.heap.size, 0, none⟩ = some (.int .i64 tn) := (Blk.new w10 3 #[.int .i64 tn]).cell 0
          have hg10 := HB10.out.lt
          have hs11 : (w10.alloc (.cells #[.int .i64 tn] 3)).heap.size = w10.heap.size + 1 := by simp
          obtain ⟨i0, hi, hz0, hz1, hz2⟩ := info_parts (show (Tryd.prog.info? 3).map (fun i => (i.zero, i.size, i.bytes)) = some (some (.int .i64 0), 1, 8) by kernel_rfl)
          have hql : q3.length ≤ 100000 := by
            have h1 := HM3'.out
            have h2 := HSZ.out
            have h4 := HQN.out
            simp only [List.length_cons] at h2
            omega
          refine sl_op HF rfl rfl (by decide) ?_; intro K hK; have e99 := HF.see 99 rfl; have e101 := HF.see 101 rfl
          generalize w10.alloc (.cells #[.int .i64 tn] 3) = w11 at HB11 HQ11 HRD11 HM11 hnc hs11 ⊢
          refine op_append_que w11 (.tmp 99) (.tmp 101) 30 rfl (g + 1) 3 i0 (.int .i64 0) 8 Tryd.underlying30 hi hz0 hz1 hz2 rfl tv3 q3.length (q3.map fun (i : Nat) => iv i) ((Act.eval_tmp _ _).trans e99) HQ11.out ⟨w10.heap.size, 0, none⟩ 1 (.int .i64 tn) ((Act.eval_tmp _ _).trans e101) hnc rfl (by unfold maxLen; omega) (by omega) (by omega) ?_
          intro v' w12 hq12 hm12 hown
          have hne : ∀ k, tv3.ownBlock = some k → g + 1 ≤ k := fun k hk => (HQ11.out.lt k hk).1
          have HQ12 := Lib.hid hq12
          have HB12 := Lib.hid (HB11.out.keep hm12 (fun h => by have := hne g h; omega))
          have HM12 := Lib.hid (show Mod Nil w w12 from HM11.out.trans' hm12 (fun _ _ h => h) (fun k hk h => by
            have h1 := hne k h
            have h2 := HG.out
            omega))
          have HRD12 := Lib.hid (((HRD11.out.mono (S' := fun b => g < b ∧ tv3.ownBlock ≠ some b ∧ b < w11.heap.size) (fun b h1 h2 => ⟨h2.1, h2.2, h1⟩)).keep hm12 (fun b hb h => hb.2.1 h)).mono (S' := fun b => g < b ∧ v'.ownBlock ≠ some b) (fun b _ hb => ⟨hb.1, fun he => by
            rcases hown b he with h | h
            · exact hb.2.1 h
            · have := hb.2.2
              omega⟩))
          clear hq12 hm12 hnc hown hi hz0 hz1 hz2
          go_wp2_with fail; clear e99 e101 HF; intro _ HF
          refine sl_move HF rfl rfl (.inr rfl) (by decide) rfl ?_; clear HF; intro _ HF
          refine wpList_nil (sl_blk0 (sl_blk (wp_region_lit ?_)))
          refine sl_op HF rfl rfl (by decide) ?_; intro K hK; have e76 := HF.see 76 rfl; go_wp2_with fail; clear e76 HF; intro _ HF
          refine sl_move HF rfl rfl (.inl rfl) (by decide) rfl ?_; clear HF; intro _ HF
          have HF2 := HF.keep [5, 6, 7, 8, 9, 12, 74, 75, 76]
          simp only [pick, look] at HF2
          rw [show (k : Int) + 1 = ((k + 1 : Nat) : Int) by omega, ← hmm] at HF2
          have hso : seen o3 tn = none := by
            unfold seen
            rw [HOT.out, hun]
            rfl
          have htl : tn < o3.length := by rw [HI3.out.len, hnn]; exact htn'
          have hpush := HI3.out.push HS3.out HXI.out HTM.out htl hso (by rw [HNX.out]; exact hnx0) (by rw [HNX.out]; exact hb2)
          rw [HNX.out] at hpush
          have hunk := unk_set (h := nx) HOT.out (by omega) hnx0
          have hq12' := HQ12.out
          rw [show q3.length + 1 = (q3 ++ [tn]).length by simp, show (q3.map fun (i : Nat) => iv i) ++ [Value.int .i64 (tn : Nat)] = ((q3 ++ [tn]).map fun (i : Nat) => iv i) by simp [iv]] at hq12'
          refine wpList_nil ⟨⟨o3.set tn nx, q3 ++ [tn], v', k + 1, HF2, hpush, seen_grow hso htl hnx0 HS3.out, by rw [hmm]; exact hlt, fun j t' hj hjt => ?_, ?_, HB12.out, hq12', HM12.out, HRD12.out⟩, ?_⟩
          · rcases Nat.lt_or_ge j k with h | h
            · have := HTH.out j t' h hjt
              exact ⟨this.1, seen_grow hso htl hnx0 this.2⟩
            · obtain rfl : j = k := by omega
              rw [HTT.out] at hjt
              cases hjt
              exact ⟨by omega, by rw [Int.toNat_natCast]; exact seen_set_same htl hnx0⟩
          · have := HM3'.out
            simp only [List.length_append, List.length_cons, List.length_nil]
            omega
          · have e76 := HF2.see 76 rfl
            try simp only [Act.eval_tmp]
            rw [HMU.out, e76]
            simp only [intOf]
            omega
        · have hq1 : (ot == -1) = false := by simpa using hun
          rw [hq1] at HF
          refine sl_nil (wp_cond_false (HF.at 89 rfl) (wp_seq (wp_region_lit ?_)))
          have HSO := Lib.hid (show seen o3 tn = some ot from seen_some.2 ⟨HOT.out, by omega⟩)
          by_cases hne : ot = nx
          · have hq2 : (ot != nx) = false := by simpa using hne
            refine sl_move HF rfl rfl (.inl rfl) (by decide) rfl ?_; clear HF; intro _ HF
            refine sl_move HF rfl rfl (.inl rfl) (by decide) rfl ?_; clear HF; intro _ HF
            refine sl_op HF rfl rfl (by decide) ?_; intro K hK; have e104 := HF.see 104 rfl; have e105 := HF.see 105 rfl; go_wp2_with fail; clear e104 e105 HF; intro _ HF
            refine sl_op HF rfl rfl (by decide) ?_; intro K hK; have e106 := HF.see 106 rfl; go_wp2_with fail; clear e106 HF; intro _ HF
            refine sl_move HF rfl rfl (.inl rfl) (by decide) rfl ?_; clear HF; intro _ HF
            refine sl_op HF rfl rfl (by decide) ?_; intro K hK; have e107 := HF.see 107 rfl; have e108 := HF.see 108 rfl; go_wp2_with fail; clear e107 e108 HF; intro _ HF
            refine sl_move HF rfl rfl (.inr rfl) (by decide) rfl ?_; clear HF; intro _ HF
            refine sl_nil (wp_cond_false (HF.at 103 rfl) (wp_skip ?_))
            refine sl_blk0 (sl_blk (wp_region_lit ?_))
            refine sl_op HF rfl rfl (by decide) ?_; intro K hK; have e76 := HF.see 76 rfl; go_wp2_with fail; clear e76 HF; intro _ HF
            refine sl_move HF rfl rfl (.inl rfl) (by decide) rfl ?_; clear HF; intro _ HF
            have HF2 := HF.keep [5, 6, 7, 8, 9, 12, 74, 75, 76]
            simp only [pick, look] at HF2
            rw [show (k : Int) + 1 = ((k + 1 : Nat) : Int) by omega, ← hmm] at HF2
            refine wpList_nil ⟨⟨o3, q3, tv3, k + 1, HF2, HI3.out, HS3.out, by rw [hmm]; exact hlt, fun j t' hj hjt => ?_, HM3'.out, HB3.out, HQ3.out, HMM.out, HRD.out⟩, ?_⟩
            · rcases Nat.lt_or_ge j k with h | h
              · exact HTH.out j t' h hjt
              · obtain rfl : j = k := by omega
                rw [HTT.out] at hjt
                cases hjt
                exact ⟨by omega, by rw [Int.toNat_natCast, HSO.out, hne]⟩
            · have e76 := HF2.see 76 rfl
              try simp only [Act.eval_tmp]
              rw [HMU.out, e76]
              simp only [intOf]
              omega
          · have hq2 : (ot != nx) = true := by simpa using hne
            have HBAD := Lib.hid (HI3.out.bad_other HS3.out HXI.out HTM.out HSO.out (by rw [HNX.out]; exact hne))
            refine sl_move HF rfl rfl (.inl rfl) (by decide) rfl ?_; clear HF; intro _ HF
            refine sl_move HF rfl rfl (.inl rfl) (by decide) rfl ?_; clear HF; intro _ HF
            refine sl_op HF rfl rfl (by decide) ?_; intro K hK; have e104 := HF.see 104 rfl; have e105 := HF.see 105 rfl; go_wp2_with fail; clear e104 e105 HF; intro _ HF
            refine sl_op HF rfl rfl (by decide) ?_; intro K hK; have e106 := HF.see 106 rfl; go_wp2_with fail; clear e106 HF; intro _ HF
            refine sl_move HF rfl rfl (.inl rfl) (by decide) rfl ?_; clear HF; intro _ HF
            refine sl_op HF rfl rfl (by decide) ?_; intro K hK; have e107 := HF.see 107 rfl; have e108 := HF.see 108 rfl; go_wp2_with fail; clear e107 e108 HF; intro _ HF
            refine sl_move HF rfl rfl (.inr rfl) (by decide) rfl ?_; clear HF; intro _ HF
            refine sl_nil (wp_cond_true (HF.at 103 rfl) (wp_seq (wp_region_lit ?_)))
            refine sl_const HF rfl rfl (.inr rfl) (by decide) ?_; clear HF; intro _ HF
            refine sl_const HF rfl rfl (.inr rfl) (by decide) ?_; clear HF; intro _ HF
            refine sl_const HF rfl rfl (.inr rfl) (by decide) ?_; clear HF; intro _ HF
            refine sl_nil (wp_ret ?_)
            dsimp only [Exit.then, Exit.inBlock]
            exact sl_ret3 HF rfl rfl rfl rfl ⟨HMM.out, .inr ⟨rfl, HBAD.out⟩⟩
      · have hd : decide ((k : Int) < (m : Int)) = false := by simp; omega
        refine wp_seq (wp_region_lit ?_)
        refine sl_op HF rfl rfl (by decide) ?_; intro K hK; have e76 := HF.see 76 rfl; have e75 := HF.see 75 rfl; go_wp2_with fail; clear e76 e75 HF; intro _ HF
        refine sl_nil (wp_seq (wp_cond_false (HF.at 77 rfl) (wp_exit ?_)))
        dsimp only [Exit.then]
        refine sl_exit ?_
        have hkm' : k = m := by omega
        have hov := HI3.out.over HS3.out HXI.out (by rw [HTK.out]; exact hb1) (by rw [HNX.out]; exact hb2) HMX.out.2.1 (by rw [HNX.out]; exact HMX.out.2.2.1) (fun t ht => by
          obtain ⟨j, hj⟩ := List.getElem?_of_mem ht
          have hjl := (List.getElem?_eq_some_iff.1 hj).1
          rw [HNX.out]
          exact HTH.out j t (by omega) hj)
        have HF2 := HF.keep [5, 6, 7, 8]
        simp only [pick, look] at HF2
        rw [← hnn] at HF2
        show _ ∧ _
        refine ⟨⟨o3, q3, _, tv3, HF2, hov, HB3.out, HQ3.out, HMM.out, ?_⟩, ?_⟩
        · have h1 := HM3'.out
          have h2 := HSZ.out
          have h4 := HQN.out
          simp only [List.length_cons] at h2
          omega
        have hms : ∀ act : Act, act.eval (.tmp 8) = tv3 → hmsr g act w9 = 2 * unk o3 + q3.length := fun act he => by
          unfold hmsr
          rw [negs_eq HB3.out, he]
          obtain ⟨_, ⟨rfl, h0⟩ | ⟨g', off, cap, cur, rfl, _⟩⟩ := HQ3.out
          · rw [h0]; rfl
          · rfl
        rw [hms _ (HF.at 8 rfl), HMS.out]
        have := HM3'.out
        have := HQN.out
        simp only [List.length_cons]
        omega
end Go.Proofs.YtefloadjolpgbaaDoor

namespace Go.Proofs.YtefloadjolpgbaaDoor
open Go.RowKit

section
variable {P : Program} (w : World)
theorem step_append_k {ops : Array Oper} {o : Oper} {a : Act} {K : Act → World → Prop} {Q : Exit → Act → World → Prop} {E : Prop} (hgd : o.guard = none) (s x : Operand) (t : TypeId)
    (ho : o.op = .call { callee := .builtin .append, args := #[s, x], argTypes := #[t, t] })
    (base : Nat) (e : TypeId) (i : TypeInfo) (z : Value) (size bytes : Nat) (ht : P.underlying t = some (.slice e)) (hi : P.info? e = some i) (hz : i.zero = some z)
    (hsize : i.size = size) (hby : i.bytes = bytes) (hzs : z.cells.size = size) (hsz : 0 < size)
    (v : Value) (n : Nat) (xs : List Value) (hs : a.eval s = v) (hown : w.ownsRow base e size v n xs)
    (ad : Addr) (m c : Nat) (news : List Value) (hx : a.eval x = .slice (some ad) m c) (hl : news.length = m * size) (hr : ∀ j u, news[j]? = some u → w.cell? (ad.add j) = some u) (h1 : ∀ u ∈ news, u.oneCell' = true)
    (hbytes : (n + m) * bytes ≤ 140737488355328) (h63 : n + m ≤ maxLen) (hbase : base ≤ w.heap.size)
    (h : ∀ A' c' w', w'.ownsRow base e size (.slice A' (n + m) c') (n + m) (xs ++ news) → Mod (fun k => v.ownBlock = some k) w w' → (∀ k, (Value.slice A' (n + m) c').ownBlock = some k → v.ownBlock = some k ∨ w.heap.size ≤ k) → K (a.put o.dst (.slice A' (n + m) c')) w') :
    if Region.wanted o (yielded ops a.tmps) = true then Oper.wp P o a w K Q else E := by
  have hw : Region.wanted o (yielded ops a.tmps) = true := by simp [Region.wanted, hgd]
  rw [if_pos hw]
  obtain ⟨v', w', hrun, h2, h3, _, h5⟩ := run_append_own_at (P := P) w base t o.type e i z size bytes ht hi hz hsize hby hzs hsz v n xs hown ad m c news hl hr h1 h63 hbytes hbase
  obtain ⟨A', c', rfl, _, _⟩ := own_slice h2
  unfold Oper.wp execOp
  simp only [ho, resolve, invoke, builtin, Sem.run_bind, Sem.run_pure, Result.andThen_ok, List.map_toArray, List.map_cons, List.map_nil, hs, hx, hrun]
  refine h A' c' w' h2 (Mod.of_grown h3) (fun k hk => ?_)
  rcases h5 with h5 | h5
  · exact .inl (h5 ▸ hk)
  · rw [h5] at hk
    injection hk with hk
    exact .inr (by omega)
end
end Go.Proofs.YtefloadjolpgbaaDoor

namespace Go.Proofs.YtefloadjolpgbaaDoor
open Go.RowKit

/-- append, whatever is appended (nil, too), k cells an element: a step. -/
theorem stepn_append {P : Program} (w : World) {ops : Array Oper} {o : Oper} {a : Act} {K : Act → World → Prop} {Q : Exit → Act → World → Prop} {E : Prop} (hgd : o.guard = none) (s x : Operand) (t : TypeId)
    (ho : o.op = .call { callee := .builtin .append, args := #[s, x], argTypes := #[t, t] })
    (base : Nat) (e : TypeId) (i : TypeInfo) (z : Value) (size bytes : Nat) (ht : P.underlying t = some (.slice e)) (hi : P.info? e = some i) (hz : i.zero = some z)
    (hsize : i.size = size) (hby : i.bytes = bytes) (hzs : z.cells.size = size) (hsz : 0 < size)
    (v : Value) (n : Nat) (xs : List Value) (hs : a.eval s = v) (hown : w.ownsRow base e size v n xs)
    (A : Option Addr) (m c : Nat) (news : List Value) (hx : a.eval x = .slice A m c) (hl : news.length = m * size) (hr : 0 < m → ∃ ad, A = some ad ∧ ∀ j u, news[j]? = some u → w.cell? (ad.add j) = some u) (h1 : ∀ u ∈ news, u.oneCell' = true)
    (hA : A = none → m = 0 ∧ c = 0)
    (hbytes : (n + m) * bytes ≤ 140737488355328) (h63 : n + m ≤ maxLen) (hbase : base ≤ w.heap.size)
    (h : ∀ A' c' w', w'.ownsRow base e size (.slice A' (n + m) c') (n + m) (xs ++ news) → Mod (fun k => v.ownBlock = some k) w w' → (∀ k, (Value.slice A' (n + m) c').ownBlock = some k → v.ownBlock = some k ∨ w.heap.size ≤ k) → K (a.put o.dst (.slice A' (n + m) c')) w') :
    if Region.wanted o (yielded ops a.tmps) = true then Oper.wp P o a w K Q else E := by
  have hw : Region.wanted o (yielded ops a.tmps) = true := by simp [Region.wanted, hgd]
  rcases A with _ | ad
  · obtain ⟨rfl, rfl⟩ := hA rfl
    have hnews : news = [] := List.eq_nil_of_length_eq_zero (by simpa using hl)
    subst hnews
    rw [if_pos hw]
    have hrun := run_append_of_nil (P := P) w base t o.type e i size ht hi v n xs hown 0
    obtain ⟨A', c', rfl, _, _⟩ := own_slice hown
    unfold Oper.wp execOp
    simp only [ho, resolve, invoke, builtin, Sem.run_bind, Sem.run_pure, Result.andThen_ok, List.map_toArray, List.map_cons, List.map_nil, hs, hx, hrun]
    exact h A' c' w (by simpa using hown) (Mod.refl _ _) (fun k hk => .inl hk)
  · rcases Nat.eq_zero_or_pos m with h0 | h0
    · subst h0
      have hnews : news = [] := List.eq_nil_of_length_eq_zero (by simpa using hl)
      subst hnews
      exact step_append_k w hgd s x t ho base e i z size bytes ht hi hz hsize hby hzs hsz v n xs hs hown ad 0 c [] hx (by simp) (fun j u hj => by simp at hj) (fun u hu => by simp at hu) hbytes h63 hbase h
    · obtain ⟨ad', he, hr'⟩ := hr h0
      injection he with he
      subst he
      exact step_append_k w hgd s x t ho base e i z size bytes ht hi hz hsize hby hzs hsz v n xs hs hown ad m c news hx hl hr' h1 hbytes h63 hbase h

section
variable {P : Program}
theorem opn_append (w : World) {o : Oper} {a : Act} {K : Act → World → Prop} {Q : Exit → Act → World → Prop} (hgd : o.guard = none) (s x : Operand) (t : TypeId)
    (ho : o.op = .call { callee := .builtin .append, args := #[s, x], argTypes := #[t, t] })
    (base : Nat) (e : TypeId) (i : TypeInfo) (z : Value) (size bytes : Nat) (ht : P.underlying t = some (.slice e)) (hi : P.info? e = some i) (hz : i.zero = some z)
    (hsize : i.size = size) (hby : i.bytes = bytes) (hzs : z.cells.size = size) (hsz : 0 < size)
    (v : Value) (n : Nat) (xs : List Value) (hs : a.eval s = v) (hown : w.ownsRow base e size v n xs)
    (A : Option Addr) (m c : Nat) (news : List Value) (hx : a.eval x = .slice A m c) (hl : news.length = m * size) (hr : 0 < m → ∃ ad, A = some ad ∧ ∀ j u, news[j]? = some u → w.cell? (ad.add j) = some u) (h1 : ∀ u ∈ news, u.oneCell' = true)
    (hbytes : (n + m) * bytes ≤ 140737488355328) (h63 : n + m ≤ maxLen) (hbase : base ≤ w.heap.size)
    (h : ∀ A' c' w', w'.ownsRow base e size (.slice A' (n + m) c') (n + m) (xs ++ news) → Mod (fun k => v.ownBlock = some k) w w' → (∀ k, (Value.slice A' (n + m) c').ownBlock = some k → v.ownBlock = some k ∨ w.heap.size ≤ k) → K (a.put o.dst (.slice A' (n + m) c')) w') :
    Oper.wp P o a w K Q := by
  rcases A with _ | ad
  · have hm0 : m = 0 := by
      rcases Nat.eq_zero_or_pos m with h0 | h0
      · exact h0
      · obtain ⟨ad, e, _⟩ := hr h0
        cases e
    subst hm0
    have hnews : news = [] := List.eq_nil_of_length_eq_zero (by simpa using hl)
    subst hnews
    have hrun := run_append_of_nil (P := P) w base t o.type e i size ht hi v n xs hown c
    obtain ⟨A', c', rfl, _, _⟩ := own_slice hown
    unfold Oper.wp execOp
    simp only [ho, resolve, invoke, builtin, Sem.run_bind, Sem.run_pure, Result.andThen_ok, List.map_toArray, List.map_cons, List.map_nil, hs, hx, hrun]
    exact h A' c' w (by simpa using hown) (Mod.refl _ _) (fun k hk => .inl hk)
  · have hh := stepn_append (P := P) w (ops := #[]) (o := o) (a := a) (K := K) (Q := Q) (E := False) hgd s x t ho base e i z size bytes ht hi hz hsize hby hzs hsz v n xs hs hown (some ad) m c news hx hl hr h1 (fun e => by cases e) hbytes h63 hbase h
    rwa [if_pos (by simp [Region.wanted, hgd])] at hh
end

/-- What an append leaves. -/
structure Apn (base : Nat) (e : TypeId) (size : Nat) (v : Value) (k : Nat) (ys : List Value) (A' : Option Addr) (c' : Nat) (w w' : World) : Prop where
  own : w'.ownsRow base e size (.slice A' k c') k ys
  mod : Mod (fun k => v.ownBlock = some k) w w'
  blk : ∀ j, (Value.slice A' k c').ownBlock = some j → v.ownBlock = some j ∨ w.heap.size ≤ j

theorem sl_appendn {P : Program} {n : Nat} {L : List (Tmp × Value)} {a : Act} {ops : Array Oper} {Q : Exit → Act → World → Prop} {w : World} {rest : List Oper} {o : Oper} {d : Tmp}
    (HF : Sl n L a) (hgd : o.guard = none) (hd : o.dst = some d) (hdn : d < n) {s x : Tmp} {t : TypeId} (ho : o.op = .call { callee := .builtin .append, args := #[.tmp s, .tmp x], argTypes := #[t, t] })
    {base : Nat} {e : TypeId} {i : TypeInfo} {z : Value} {size bytes : Nat} (ht : P.underlying t = some (.slice e)) (hi : P.info? e = some i) (hz : i.zero = some z) (hsize : i.size = size) (hby : i.bytes = bytes) (hzs : z.cells.size = size) (hsz : 0 < size)
    {v : Value} {k : Nat} {xs : List Value} (hs : look L s = some v) (hown : w.ownsRow base e size v k xs) {A : Option Addr} {m c : Nat} {news : List Value} (hx : look L x = some (.slice A m c)) (hl : news.length = m * size) (hr : Rd All w A news)
    (h1 : ∀ u ∈ news, u.oneCell' = true) (hbytes : (k + m) * bytes ≤ 140737488355328) (h63 : k + m ≤ maxLen) (hbase : base ≤ w.heap.size)
    (hk : ∀ A' c' w' a', Sl n ((d, .slice A' (k + m) c') :: L) a' → Apn base e size v (k + m) (xs ++ news) A' c' w w' → wpList P ops Q rest a' w') : wpList P ops Q (o :: rest) a w := by
  refine wpList_plain hgd fun K hK => ?_
  refine opn_append w hgd (.tmp s) (.tmp x) t ho base e i z size bytes ht hi hz hsize hby hzs hsz v k xs (HF.at s hs) hown A m c news (HF.at x hx) hl (fun hm => ?_) h1 hbytes h63 hbase fun A' c' w' h1 h2 h3 => ?_
  · obtain ⟨ad, e1, _, _, e2⟩ := hr (by rw [hl]; exact Nat.mul_pos hm hsz)
    exact ⟨ad, e1, e2⟩
  · rw [hd]
    exact hK _ _ (hk A' c' w' _ (HF.put hdn _) ⟨h1, h2, h3⟩)
end Go.Proofs.YtefloadjolpgbaaDoor
