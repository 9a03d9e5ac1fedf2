/- Parts of the proof of ScanStreams, joined: RnF RnG. -/
import Derived.Test.YtefloadjolpgbaaGreatDoorScanStreamsj8
namespace Go.Proofs.YtefloadjolpgbaaGreatDoor
open Go.RowKit

theorem lower_len {m : List UInt8} (h : nmLower m = true) : m.length ≤ 40 := by
  unfold nmLower nmIs at h
  simp only [Bool.and_eq_true, decide_eq_true_eq] at h
  exact h.1.2
theorem flat_len : ∀ (ps : List (List UInt8)), (∀ p ∈ ps, p.length ≤ 40) → (ps.flatMap (· ++ [58])).length ≤ ps.length * 41
  | [], _ => by simp
  | p :: ps, h => by
    have h1 := flat_len ps (fun q hq => h q (List.mem_cons_of_mem _ hq))
    have h2 := h p (List.mem_cons_self ..)
    simp only [List.flatMap_cons, List.length_append, List.length_cons, List.length_nil]
    omega
theorem cand_len {l : List UInt8} {k : Nat} (h : candB l k = true) : k ≤ 410 := by
  have hk := cand_kind h
  have hl := cand_le h
  have ht : (l.take k).length = k := by rw [List.length_take]; omega
  rcases kind_pos hk with h1 | h1 | h1
  · have := lower_len h1
    omega
  · have := (bin_all h1).1
    omega
  · have h2 := kw_parts h1
    have h3 := congrArg List.length (kw_join h1)
    have h4 := flat_len _ (fun p hp => lower_len (h2.2.2.2 p hp))
    have := h2.2.2.1
    omega
theorem symTo_all {d : List UInt8} {n : Nat} (h : d.length ≤ n ∨ 410 ≤ n) : symL d = symTo d n :=
  symL_of (symTo_cand d n) fun j hj => symTo_most d n j (by have := cand_le hj; have := cand_len hj; omega) hj

/-- The place behind the best candidate so far. -/
def bestV (a s : Nat) : Int := if s = 0 then -1 else ((a + 1 + s : Nat) : Int)
theorem bestV_ge (a s : Nat) : -1 ≤ bestV a s ∧ bestV a s ≤ a + 1 + s := by
  unfold bestV
  split <;> omega

def SyI (w0 : World) (l : List UInt8) (a g4 g7 : Nat) (ac : Act) (w : World) : Prop :=
  ∃ m : Nat, Sl 260 [(0, .string (str l)), (1, .int .i64 a), (4, .pointer (some ⟨g4, 0, none⟩)), (5, .int .i64 0), (7, .pointer (some ⟨g7, 0, none⟩)), (12, .int .i64 (bestV a (symTo (l.drop (a + 1)) m))), (13, .int .i64 ((a + 2 + m : Nat) : Int))] ac ∧
    TW w0 w g4 g7 ⟨0, [], 0⟩ a ∧ m ≤ 500

set_option maxHeartbeats 3200000 in
set_option maxRecDepth 100000 in
theorem rtok_ycond {Q : Exit → Act → World → Prop} {l : List UInt8} {a g4 g7 m : Nat} {w : World} {ac : Act} {b : Bool} {x : Int}
    (HF : Sl 260 [(0, .string (str l)), (1, .int .i64 a), (4, .pointer (some ⟨g4, 0, none⟩)), (5, .int .i64 0), (7, .pointer (some ⟨g7, 0, none⟩)), (12, .int .i64 x), (13, .int .i64 ((a + 2 + m : Nat) : Int)), (175, .bool b)] ac)
    (hQ : ∀ ac', Sl 260 [(0, .string (str l)), (1, .int .i64 a), (4, .pointer (some ⟨g4, 0, none⟩)), (5, .int .i64 0), (7, .pointer (some ⟨g7, 0, none⟩)), (12, .int .i64 (if b then ((a + 2 + m : Nat) : Int) else x)), (13, .int .i64 ((a + 2 + m : Nat) : Int))] ac' → Q .normal ac' w) :
    (part [1, 1, 1, 1, 1, 1, 0, 1, 0, 1, 0, 1, 0, 0, 1, 0, 0, 1] rtBody).wp Tryz.prog Q ac w := by
  have HQ := Lib.hid hQ
  clear hQ
  conv => arg 2; whnf
  cases b
  · exact wp_cond_false (HF.at 175 rfl) (wp_skip (HQ.out _ (HF.keep [0, 1, 4, 5, 7, 12, 13])))
  · refine wp_cond_true (HF.at 175 rfl) (wp_region_lit ?_)
    refine sl_move HF rfl rfl (.inl rfl) (by decide) rfl ?_; clear HF; intro _ HF
    refine sl_move HF rfl rfl (.inr rfl) (by decide) rfl ?_; clear HF; intro _ HF
    exact wpList_nil (HQ.out _ (HF.keep [0, 1, 4, 5, 7, 12, 13]))

set_option maxHeartbeats 3200000 in
set_option maxRecDepth 100000 in
theorem rtok_ytail {l : List UInt8} {a g4 g7 : Nat} {w0 w : World} {ac : Act} {r : List UInt8}
    (HF : Sl 260 [(0, .string (str l)), (1, .int .i64 a), (4, .pointer (some ⟨g4, 0, none⟩)), (5, .int .i64 0), (7, .pointer (some ⟨g7, 0, none⟩)), (12, .int .i64 (bestV a (symL r)))] ac)
    (hl : l.length ≤ 5000) (hr : l.drop (a + 1) = r) (hd : l.drop a = 35 :: r) (h : TW w0 w g4 g7 ⟨0, [], 0⟩ a) :
    (part [1, 1, 1, 1, 1, 1, 0, 1, 0, 1, 1] rtBody).wp Tryz.prog (RetP (bodyPost Tryz.prog Tryz.f8 (fun e w' => RTok l a w0 e w'))) ac w := by
  have hsz := str_size l
  obtain ⟨n, hn⟩ : ∃ n, n = symL r := ⟨_, rfl⟩
  have hnl : n ≤ r.length := by rw [hn]; exact symTo_le r r.length
  have hrl : r.length + a + 1 = l.length := by
    have h1 := congrArg List.length hd
    rw [List.length_drop] at h1
    simp at h1
    omega
  have HTOK := Lib.hid (show tokL (l.drop a) = if n = 0 then none else some (⟨6, r.take n, 0⟩, n + 1) by rw [hd, hn]; rfl)
  rw [← hn] at HF
  have HT := Lib.hid h
  have he : (str l).extract (a + 1) (a + 1 + n) = str (r.take n) := by rw [str_extract, Nat.add_sub_cancel_left, hr]
  clear hn hr hd h
  conv => arg 2; whnf
  by_cases h0 : n = 0
  · have HX := Lib.hid (show tokL (l.drop a) = none by rw [HTOK.out, if_pos h0])
    have hb : bestV a n = -1 := by unfold bestV; rw [if_pos h0]
    rw [hb] at HF
    clear hb h0
    refine wp_seq (wp_seq (wp_region_lit ?_))
    refine sl_move HF rfl rfl (.inl rfl) (by decide) rfl ?_; clear HF; intro _ HF
    refine sl_op HF rfl rfl (by decide) ?_; intro K hK; have e177 := HF.see 177 rfl; go_wp2_with fail; clear e177 HF; intro _ HF
    refine sl_nil (wp_cond_true (HF.at 178 rfl) (wp_seq (wp_region_lit ?_)))
    obtain ⟨f0, f1, f2, f3, _, _, _⟩ := HT.out.facts
    obtain ⟨k0, k1, k2, k3, m0, m1, m2, m3⟩ := HT.out.facts4
    refine sl_op HF rfl rfl (by decide) ?_; intro K hK; have e7 := HF.see 7 rfl; go_wp2_with fail; clear e7 HF; intro _ HF
    refine sl_op0 HF rfl rfl ?_; intro K hK; have e4 := HF.see 4 rfl; have e179 := HF.see 179 rfl; go_wp2_with fail; clear e4 e179 HF; intro _ HF
    refine sl_const HF rfl rfl (.inr rfl) (by decide) ?_; clear HF; intro _ HF
    refine sl_nil (wp_ret ?_)
    try dsimp only [Exit.then]
    exact RetP.mk rfl (rtok_end (t := ⟨0, [], 0⟩) HF rfl rfl HT.out (fun t' k h => by rw [HX.out] at h; cases h) (fun _ => rfl))
  · have HX := Lib.hid (show tokL (l.drop a) = some (⟨6, r.take n, 0⟩, n + 1) by rw [HTOK.out, if_neg h0])
    have hb : bestV a n = (a : Int) + 1 + n := by unfold bestV; rw [if_neg h0]; omega
    rw [hb] at HF
    have hlt : decide ((a : Int) + 1 + n < 0) = false := by simp; omega
    clear hb h0
    refine wp_seq (wp_seq (wp_region_lit ?_))
    refine sl_move HF rfl rfl (.inl rfl) (by decide) rfl ?_; clear HF; intro _ HF
    refine sl_op HF rfl rfl (by decide) ?_; intro K hK; have e177 := HF.see 177 rfl; go_wp2_with fail; clear e177 HF; intro _ HF
    refine sl_nil (wp_cond_false (HF.at 178 rfl) (wp_skip (sl_then (wp_seq (wp_region_lit ?_)))))
    obtain ⟨f0, f1, f2, f3, q0, q1, q2⟩ := HT.out.facts
    refine sl_op HF rfl rfl (by decide) ?_; intro K hK; have e7 := HF.see 7 rfl; go_wp2_with fail; clear e7 HF; intro _ HF
    refine sl_op0 HF rfl rfl ?_; intro K hK; have e180 := HF.see 180 rfl; go_wp2_with fail; clear e180 HF; intro _ HF
    refine sl_nil (wp_seq (wp_region_lit ?_))
    have h1 := HT.out.set0 6
    clear f0 f1 f2 f3 q0 q1 q2
    generalize World.setCell w ⟨g7, 0, none⟩ (.int .i64 6) = w3 at h1 ⊢
    have H1 := Lib.hid h1
    obtain ⟨f0, f1, f2, f3, q0, q1, q2⟩ := h1.facts
    clear h1
    refine sl_move HF rfl rfl (.inl rfl) (by decide) rfl ?_; clear HF; intro _ HF
    refine sl_move HF rfl rfl (.inl rfl) (by decide) rfl ?_; clear HF; intro _ HF
    refine sl_op HF rfl rfl (by decide) ?_; intro K hK; have e182 := HF.see 182 rfl; go_wp2_with fail; clear e182 HF; intro _ HF
    refine sl_move HF rfl rfl (.inl rfl) (by decide) rfl ?_; clear HF; intro _ HF
    refine sl_op HF rfl rfl (by decide) ?_; intro K hK; have e181 := HF.see 181 rfl; have e183 := HF.see 183 rfl; have e184 := HF.see 184 rfl; go_wp2_with fail; clear e181 e183 e184 HF; intro _ HF
    refine sl_op HF rfl rfl (by decide) ?_; intro K hK; have e7 := HF.see 7 rfl; go_wp2_with fail; clear e7 HF; intro _ HF
    refine sl_op0 HF rfl rfl ?_; intro K hK; have e186 := HF.see 186 rfl; have e185 := HF.see 185 rfl; go_wp2_with fail; clear e186 e185 HF; intro _ HF
    refine sl_nil (wp_seq (wp_region_lit ?_))
    have h1 := H1.out.set1 (r.take n)
    clear f0 f1 f2 f3 q0 q1 q2
    generalize World.setCell w3 ⟨g7, 1, none⟩ (.string (str (r.take n))) = w4 at h1 ⊢
    have H2 := Lib.hid h1
    obtain ⟨f0, f1, f2, f3, q0, q1, q2⟩ := h1.facts
    obtain ⟨k0, k1, k2, k3, m0, m1, m2, m3⟩ := h1.facts4
    clear h1
    refine sl_op HF rfl rfl (by decide) ?_; intro K hK; have e7 := HF.see 7 rfl; go_wp2_with fail; clear e7 HF; intro _ HF
    refine sl_move HF rfl rfl (.inl rfl) (by decide) rfl ?_; clear HF; intro _ HF
    refine sl_op0 HF rfl rfl ?_; intro K hK; have e4 := HF.see 4 rfl; have e187 := HF.see 187 rfl; go_wp2_with fail; clear e4 e187 HF; intro _ HF
    refine sl_move HF rfl rfl (.inr rfl) (by decide) rfl ?_; clear HF; intro _ HF
    refine sl_nil (wp_ret ?_)
    exact RetP.mk rfl (rtok_end (t := ⟨6, r.take n, 0⟩) HF rfl rfl H2.out (fun t' k' h => by rw [HX.out] at h; cases h; exact ⟨rfl, by omega⟩) (fun h => by rw [HX.out] at h; cases h))

theorem cand_eq {d : List UInt8} {m : Nat} (hm : m ≤ d.length) : candB d m = (decide (0 < nmKind (d.take m)) && wholeB d m) := by
  unfold candB
  rw [decide_eq_true hm, Bool.and_true]
theorem whole_end {d : List UInt8} : wholeB d d.length = true := by
  cases d with
  | nil => rfl
  | cons c r =>
    unfold wholeB
    simp only [List.getElem?_eq_none (Nat.le_refl _)]
    simp

set_option maxHeartbeats 6400000 in
set_option maxRecDepth 100000 in
theorem rtok_sym {l : List UInt8} {a : Nat} {w0 w : World} {ac : Act} {g4 g7 : Nat} {r : List UInt8}
    (HF : Sl 260 [(0, .string (str l)), (1, .int .i64 a), (4, .pointer (some ⟨g4, 0, none⟩)), (5, .int .i64 0), (6, .int .u8 35), (7, .pointer (some ⟨g7, 0, none⟩))] ac)
    (hl : l.length ≤ 5000) (hd : l.drop a = 35 :: r) (h : TW w0 w g4 g7 ⟨0, [], 0⟩ a) :
    (part [1, 1, 1, 1, 1, 1, 0, 1, 0] rtBody).wp Tryz.prog (RetP (bodyPost Tryz.prog Tryz.f8 (fun e w' => RTok l a w0 e w'))) ac w := by
  have hsz := str_size l
  have hr : l.drop (a + 1) = r := by rw [← List.drop_drop, hd]; rfl
  have hrl : r.length + a + 1 = l.length := by
    have h1 := congrArg List.length hd
    rw [List.length_drop] at h1
    simp at h1
    omega
  have HT := Lib.hid h
  have HEND := Lib.hid (fun ac (w : World) HF h => rtok_ytail (l := l) (a := a) (w0 := w0) (w := w) (ac := ac) (g4 := g4) (g7 := g7) (r := r) HF hl hr hd h)
  have HR := Lib.hid hr
  clear h hd hr
  conv => arg 2; whnf
  refine wp_seq (wp_region_lit ?_)
  refine sl_const HF rfl rfl (.inr rfl) (by decide) ?_; clear HF; intro _ HF
  refine sl_nil (wp_seq (wp_seq (wp_region_lit ?_)))
  refine sl_move HF rfl rfl (.inl rfl) (by decide) rfl ?_; clear HF; intro _ HF
  refine sl_op HF rfl rfl (by decide) ?_; intro K hK; have e142 := HF.see 142 rfl; go_wp2_with fail; clear e142 HF; intro _ HF
  refine sl_move HF rfl rfl (.inr rfl) (by decide) rfl ?_; clear HF; intro _ HF
  refine sl_nil (wp_block (wp_loop (SyI w0 l a g4 g7) (fun ac _ => l.length + 1 - (intOf (ac.eval (.tmp 13))).toNat) ?_ ?_))
  · refine ⟨0, ?_, HT.out, by omega⟩
    have := HF.keep [0, 1, 4, 5, 7, 12, 13]
    rw [show ((a + 2 + 0 : Nat) : Int) = (a : Int) + 2 by omega]
    exact this
  · clear HF HT
    rintro ac2 w2 ⟨m, HF, hT, hm⟩
    have hmu : l.length + 1 - (intOf ((ac2.tmps[13]?).getD undef)).toNat = l.length + 1 - (a + 2 + m) := by rw [HF.see 13 rfl]; simp [intOf] <;> omega
    have HMU := Lib.hid hmu
    have HT := Lib.hid hT
    rw [HR.out] at HF
    clear hmu hT
    have hbx := bestV_ge a (symTo r m)
    have hsl := symTo_le r m
    obtain ⟨x, hx⟩ : ∃ x, x = bestV a (symTo r m) := ⟨_, rfl⟩
    rw [← hx] at HF hbx
    have HXV := Lib.hid hx
    clear hx
    by_cases hlen : a + 2 + m ≤ l.length
    · have hle : decide ((a : Int) + 2 + m ≤ l.length) = true := by simp; omega
      by_cases h500 : m < 498
      · have hlt : decide ((a : Int) + 2 + m < (a : Int) + 500) = true := by simp; omega
        have he : (str l).extract (a + 1) (a + 2 + m) = str (r.take (m + 1)) := by rw [str_extract, show a + 2 + m - (a + 1) = m + 1 by omega, HR.out]
        have hz : ((a + 2 + m : Nat) : Int) = (a : Int) + 2 + m := by omega
        have HCE := Lib.hid (cand_eq (d := r) (m := m + 1) (by omega))
        have HST := Lib.hid (show symTo r (m + 1) = if candB r (m + 1) then m + 1 else symTo r m from rfl)
        have hnext : ∀ (b : Bool), candB r (m + 1) = b → bestV a (symTo r (m + 1)) = if b then ((a + 2 + m : Nat) : Int) else x := by
          intro b hb
          rw [HST.out, hb, HXV.out]
          cases b
          · rfl
          · simp only [if_true]
            unfold bestV
            rw [if_neg (by omega)]
            omega
        have HNEXT := Lib.hid hnext
        clear hnext
        refine wp_seq (wp_seq (wp_region_lit ?_))
        rw [hz] at HF
        refine sl_move HF rfl rfl (.inl rfl) (by decide) rfl ?_; clear HF; intro _ HF
        refine sl_move HF rfl rfl (.inl rfl) (by decide) rfl ?_; clear HF; intro _ HF
        refine sl_op HF rfl rfl (by decide) ?_; intro K hK; have e145 := HF.see 145 rfl; go_wp2_with fail; clear e145 HF; intro _ HF
        refine sl_op HF rfl rfl (by decide) ?_; intro K hK; have e144 := HF.see 144 rfl; have e146 := HF.see 146 rfl; go_wp2_with fail; clear e144 e146 HF; intro _ HF
        refine sl_move HF rfl rfl (.inl rfl) (by decide) rfl ?_; clear HF; intro _ HF
        refine sl_want HF rfl rfl rfl rfl (by decide) ?_; intro K hK; have e13 := HF.see 13 rfl; go_wp2_with fail; clear e13 HF; intro _ HF
        refine sl_want HF rfl rfl rfl rfl (by decide) ?_; intro K hK; have e1 := HF.see 1 rfl; go_wp2_with fail; clear e1 HF; intro _ HF
        refine sl_want HF rfl rfl rfl rfl (by decide) ?_; intro K hK; have e150 := HF.see 150 rfl; go_wp2_with fail; clear e150 HF; intro _ HF
        refine sl_want HF rfl rfl rfl rfl (by decide) ?_; intro K hK; have e149 := HF.see 149 rfl; have e151 := HF.see 151 rfl; go_wp2_with fail; clear e149 e151 HF; intro _ HF
        refine sl_op HF rfl rfl (by decide) ?_; intro K hK; have e148 := HF.see 148 rfl; have e152 := HF.see 152 rfl; go_wp2_with fail; clear e148 e152 HF; intro _ HF
        refine sl_nil (wp_cond_true (HF.at 153 rfl) (wp_skip (sl_then (wp_seq (wp_block (wp_seq (wp_region_lit ?_)))))))
        refine sl_move HF rfl rfl (.inl rfl) (by decide) rfl ?_; clear HF; intro _ HF
        refine sl_move HF rfl rfl (.inl rfl) (by decide) rfl ?_; clear HF; intro _ HF
        refine sl_op HF rfl rfl (by decide) ?_; intro K hK; have e157 := HF.see 157 rfl; go_wp2_with fail; clear e157 HF; intro _ HF
        refine sl_move HF rfl rfl (.inl rfl) (by decide) rfl ?_; clear HF; intro _ HF
        refine sl_op HF rfl rfl (by decide) ?_; intro K hK; have e156 := HF.see 156 rfl; have e158 := HF.see 158 rfl; have e159 := HF.see 159 rfl; go_wp2_with fail; clear e156 e158 e159 HF; intro _ HF
        refine sl_op HF rfl rfl (by decide) ?_; intro K hK; have e160 := HF.see 160 rfl; go_wp2_with fail
        refine (r6Kind_any (r.take (m + 1)) (by rw [List.length_take]; omega) _).mono ?_
        rintro e w3 ⟨rfl, hm3⟩
        have HT3 := Lib.hid (HT.out.keep hm3)
        clear hm3
        go_wp2_with fail; clear e160 HF; intro _ HF
        by_cases hk0 : nmKind (r.take (m + 1)) = 0
        · have hdk : decide (0 < (nmKind (r.take (m + 1)) : Int)) = false := by simp; omega
          have HC := Lib.hid (show candB r (m + 1) = false by rw [HCE.out, hk0]; rfl)
          clear hk0
          generalize (nmKind (r.take (m + 1)) : Int) = kk at hdk HF
          refine sl_op HF rfl rfl (by decide) ?_; intro K hK; have e161 := HF.see 161 rfl; go_wp2_with fail; clear e161 HF; intro _ HF
          refine sl_move HF rfl rfl (.inl rfl) (by decide) rfl ?_; clear HF; intro _ HF
          refine sl_skip HF rfl rfl rfl rfl (by decide) ?_; clear HF; intro _ HF
          refine sl_skip HF rfl rfl rfl rfl (by decide) ?_; clear HF; intro _ HF
          refine sl_skip HF rfl rfl rfl rfl (by decide) ?_; clear HF; intro _ HF
          refine sl_skip HF rfl rfl rfl rfl (by decide) ?_; clear HF; intro _ HF
          refine sl_skip HF rfl rfl rfl rfl (by decide) ?_; clear HF; intro _ HF
          refine sl_skip_u HF rfl rfl rfl rfl (by decide) ?_; clear HF; intro _ HF
          refine sl_skip_u HF rfl rfl rfl rfl (by decide) ?_; clear HF; intro _ HF
          refine sl_skip_u HF rfl rfl rfl rfl (by decide) ?_; clear HF; intro _ HF
          refine sl_skip_u HF rfl rfl rfl rfl (by decide) ?_; clear HF; intro _ HF
          refine sl_skip_u HF rfl rfl rfl rfl (by decide) ?_; clear HF; intro _ HF
          refine sl_skip HF rfl rfl rfl rfl (by decide) ?_; clear HF; intro _ HF
          refine sl_op HF rfl rfl (by decide) ?_; intro K hK; have e163 := HF.see 163 rfl; have e174 := HF.see 174 rfl; go_wp2_with fail; clear e163 e174 HF; intro _ HF
          have HF2 := HF.keep [0, 1, 4, 5, 7, 12, 13, 175]
          rw [← hz] at HF2
          refine sl_nil (rtok_ycond (b := false) (x := x) HF2 ?_)
          intro ac3 HF
          have HN := Lib.hid (HNEXT.out false HC.out)
          rw [← HN.out] at HF
          clear HF2
          refine sl_blk (wp_region_lit ?_)
          refine sl_move HF rfl rfl (.inl rfl) (by decide) rfl ?_; clear HF; intro _ HF
          refine sl_op HF rfl rfl (by decide) ?_; intro K hK; have e154 := HF.see 154 rfl; go_wp2_with fail; clear e154 HF; intro _ HF
          refine sl_move HF rfl rfl (.inr rfl) (by decide) rfl ?_; clear HF; intro _ HF
          refine wpList_nil ?_
          refine ⟨⟨m + 1, ?_, HT3.out, by omega⟩, ?_⟩
          · have := HF.keep [0, 1, 4, 5, 7, 12, 13]
            rw [HR.out, show ((a + 2 + (m + 1) : Nat) : Int) = ((a + 2 + m : Nat) : Int) + 1 by omega]
            exact this
          · have e9 := HF.see 13 rfl
            try simp only [Act.eval_tmp]
            rw [HMU.out, e9]
            simp only [intOf]
            omega
        · have hdk : decide (0 < (nmKind (r.take (m + 1)) : Int)) = true := by simp; omega
          have HKP := Lib.hid (show decide (0 < nmKind (r.take (m + 1))) = true by simp; omega)
          clear hk0
          generalize (nmKind (r.take (m + 1)) : Int) = kk at hdk HF
          by_cases hend : a + 2 + m = l.length
          · have heq : ((a : Int) + 2 + m == (l.length : Int)) = true := by simp; omega
            have HC := Lib.hid (show candB r (m + 1) = true by
              rw [HCE.out, HKP.out, show m + 1 = r.length by omega, whole_end]; rfl)
            clear hend
            refine sl_op HF rfl rfl (by decide) ?_; intro K hK; have e161 := HF.see 161 rfl; go_wp2_with fail; clear e161 HF; intro _ HF
            refine sl_move HF rfl rfl (.inl rfl) (by decide) rfl ?_; clear HF; intro _ HF
            refine sl_want HF rfl rfl rfl rfl (by decide) ?_; intro K hK; have e13 := HF.see 13 rfl; go_wp2_with fail; clear e13 HF; intro _ HF
            refine sl_want HF rfl rfl rfl rfl (by decide) ?_; intro K hK; have e0 := HF.see 0 rfl; go_wp2_with fail; clear e0 HF; intro _ HF
            refine sl_want HF rfl rfl rfl rfl (by decide) ?_; intro K hK; have e165 := HF.see 165 rfl; go_wp2_with fail; clear e165 HF; intro _ HF
            refine sl_want HF rfl rfl rfl rfl (by decide) ?_; intro K hK; have e164 := HF.see 164 rfl; have e166 := HF.see 166 rfl; go_wp2_with fail; clear e164 e166 HF; intro _ HF
            refine sl_want HF rfl rfl rfl rfl (by decide) ?_; intro K hK; have e167 := HF.see 167 rfl; go_wp2_with fail; clear e167 HF; intro _ HF
            refine sl_skip HF rfl rfl rfl rfl (by decide) ?_; clear HF; intro _ HF
            refine sl_skip HF rfl rfl rfl rfl (by decide) ?_; clear HF; intro _ HF
            refine sl_skip HF rfl rfl rfl rfl (by decide) ?_; clear HF; intro _ HF
            refine sl_skip HF rfl rfl rfl rfl (by decide) ?_; clear HF; intro _ HF
            refine sl_skip HF rfl rfl rfl rfl (by decide) ?_; clear HF; intro _ HF
            refine sl_want HF rfl rfl rfl rfl (by decide) ?_; intro K hK; have e168 := HF.see 168 rfl; have e173 := HF.see 173 rfl; go_wp2_with fail; clear e168 e173 HF; intro _ HF
            refine sl_op HF rfl rfl (by decide) ?_; intro K hK; have e163 := HF.see 163 rfl; have e174 := HF.see 174 rfl; go_wp2_with fail; clear e163 e174 HF; intro _ HF
            have HF2 := HF.keep [0, 1, 4, 5, 7, 12, 13, 175]
            rw [← hz] at HF2
            refine sl_nil (rtok_ycond (b := true) (x := x) HF2 ?_)
            intro ac3 HF
            have HN := Lib.hid (HNEXT.out true HC.out)
            rw [← HN.out] at HF
            clear HF2
            refine sl_blk (wp_region_lit ?_)
            refine sl_move HF rfl rfl (.inl rfl) (by decide) rfl ?_; clear HF; intro _ HF
            refine sl_op HF rfl rfl (by decide) ?_; intro K hK; have e154 := HF.see 154 rfl; go_wp2_with fail; clear e154 HF; intro _ HF
            refine sl_move HF rfl rfl (.inr rfl) (by decide) rfl ?_; clear HF; intro _ HF
            refine wpList_nil ?_
            refine ⟨⟨m + 1, ?_, HT3.out, by omega⟩, ?_⟩
            · have := HF.keep [0, 1, 4, 5, 7, 12, 13]
              rw [HR.out, show ((a + 2 + (m + 1) : Nat) : Int) = ((a + 2 + m : Nat) : Int) + 1 by omega]
              exact this
            · have e9 := HF.see 13 rfl
              try simp only [Act.eval_tmp]
              rw [HMU.out, e9]
              simp only [intOf]
              omega
          · have heq : ((a : Int) + 2 + m == (l.length : Int)) = false := by simp; omega
            have HC := Lib.hid (show candB r (m + 1) = wholeB r (m + 1) by rw [HCE.out, HKP.out, Bool.true_and])
            have HWH := Lib.hid (rWhole_any l (a + 1) (a + 2 + m) (by omega) (by omega) (by omega))
            rw [HR.out, show a + 2 + m - (a + 1) = m + 1 by omega, show ((a + 1 : Nat) : Int) = (a : Int) + 1 by omega, hz] at HWH
            obtain ⟨b, hb⟩ : ∃ b, b = wholeB r (m + 1) := ⟨_, rfl⟩
            rw [← hb] at HWH HC
            clear hend hb
            refine sl_op HF rfl rfl (by decide) ?_; intro K hK; have e161 := HF.see 161 rfl; go_wp2_with fail; clear e161 HF; intro _ HF
            refine sl_move HF rfl rfl (.inl rfl) (by decide) rfl ?_; clear HF; intro _ HF
            refine sl_want HF rfl rfl rfl rfl (by decide) ?_; intro K hK; have e13 := HF.see 13 rfl; go_wp2_with fail; clear e13 HF; intro _ HF
            refine sl_want HF rfl rfl rfl rfl (by decide) ?_; intro K hK; have e0 := HF.see 0 rfl; go_wp2_with fail; clear e0 HF; intro _ HF
            refine sl_want HF rfl rfl rfl rfl (by decide) ?_; intro K hK; have e165 := HF.see 165 rfl; go_wp2_with fail; clear e165 HF; intro _ HF
            refine sl_want HF rfl rfl rfl rfl (by decide) ?_; intro K hK; have e164 := HF.see 164 rfl; have e166 := HF.see 166 rfl; go_wp2_with fail; clear e164 e166 HF; intro _ HF
            refine sl_want HF rfl rfl rfl rfl (by decide) ?_; intro K hK; have e167 := HF.see 167 rfl; go_wp2_with fail; clear e167 HF; intro _ HF
            refine sl_want HF rfl rfl rfl rfl (by decide) ?_; intro K hK; have e0 := HF.see 0 rfl; go_wp2_with fail; clear e0 HF; intro _ HF
            refine sl_want HF rfl rfl rfl rfl (by decide) ?_; intro K hK; have e1 := HF.see 1 rfl; go_wp2_with fail; clear e1 HF; intro _ HF
            refine sl_want HF rfl rfl rfl rfl (by decide) ?_; intro K hK; have e170 := HF.see 170 rfl; go_wp2_with fail; clear e170 HF; intro _ HF
            refine sl_want HF rfl rfl rfl rfl (by decide) ?_; intro K hK; have e13 := HF.see 13 rfl; go_wp2_with fail; clear e13 HF; intro _ HF
            refine sl_want HF rfl rfl rfl rfl (by decide) ?_; intro K hK; have e169 := HF.see 169 rfl; have e171 := HF.see 171 rfl; have e172 := HF.see 172 rfl; go_wp2_with fail
            refine (HWH.out _).mono ?_
            rintro e w4 ⟨rfl, rfl⟩
            go_wp2_with fail; clear e169 e171 e172 HF; intro _ HF
            refine sl_want HF rfl rfl rfl rfl (by decide) ?_; intro K hK; have e168 := HF.see 168 rfl; have e173 := HF.see 173 rfl; go_wp2_with fail; clear e168 e173 HF; intro _ HF
            refine sl_op HF rfl rfl (by decide) ?_; intro K hK; have e163 := HF.see 163 rfl; have e174 := HF.see 174 rfl; go_wp2_with fail; clear e163 e174 HF; intro _ HF
            have HF2 := HF.keep [0, 1, 4, 5, 7, 12, 13, 175]
            rw [← hz] at HF2
            refine sl_nil (rtok_ycond (b := b) (x := x) HF2 ?_)
            intro ac3 HF
            have HN := Lib.hid (HNEXT.out b HC.out)
            rw [← HN.out] at HF
            clear HF2
            refine sl_blk (wp_region_lit ?_)
            refine sl_move HF rfl rfl (.inl rfl) (by decide) rfl ?_; clear HF; intro _ HF
            refine sl_op HF rfl rfl (by decide) ?_; intro K hK; have e154 := HF.see 154 rfl; go_wp2_with fail; clear e154 HF; intro _ HF
            refine sl_move HF rfl rfl (.inr rfl) (by decide) rfl ?_; clear HF; intro _ HF
            refine wpList_nil ?_
            refine ⟨⟨m + 1, ?_, HT3.out, by omega⟩, ?_⟩
            · have := HF.keep [0, 1, 4, 5, 7, 12, 13]
              rw [HR.out, show ((a + 2 + (m + 1) : Nat) : Int) = ((a + 2 + m : Nat) : Int) + 1 by omega]
              exact this
            · have e9 := HF.see 13 rfl
              try simp only [Act.eval_tmp]
              rw [HMU.out, e9]
              simp only [intOf]
              omega
      · have hlt : decide ((a : Int) + 2 + m < (a : Int) + 500) = false := by simp; omega
        have HE := Lib.hid (symTo_all (d := r) (n := m) (by omega))
        have hz : ((a + 2 + m : Nat) : Int) = (a : Int) + 2 + m := by omega
        refine wp_seq (wp_seq (wp_region_lit ?_))
        rw [hz] at HF
        refine sl_move HF rfl rfl (.inl rfl) (by decide) rfl ?_; clear HF; intro _ HF
        refine sl_move HF rfl rfl (.inl rfl) (by decide) rfl ?_; clear HF; intro _ HF
        refine sl_op HF rfl rfl (by decide) ?_; intro K hK; have e145 := HF.see 145 rfl; go_wp2_with fail; clear e145 HF; intro _ HF
        refine sl_op HF rfl rfl (by decide) ?_; intro K hK; have e144 := HF.see 144 rfl; have e146 := HF.see 146 rfl; go_wp2_with fail; clear e144 e146 HF; intro _ HF
        refine sl_move HF rfl rfl (.inl rfl) (by decide) rfl ?_; clear HF; intro _ HF
        refine sl_want HF rfl rfl rfl rfl (by decide) ?_; intro K hK; have e13 := HF.see 13 rfl; go_wp2_with fail; clear e13 HF; intro _ HF
        refine sl_want HF rfl rfl rfl rfl (by decide) ?_; intro K hK; have e1 := HF.see 1 rfl; go_wp2_with fail; clear e1 HF; intro _ HF
        refine sl_want HF rfl rfl rfl rfl (by decide) ?_; intro K hK; have e150 := HF.see 150 rfl; go_wp2_with fail; clear e150 HF; intro _ HF
        refine sl_want HF rfl rfl rfl rfl (by decide) ?_; intro K hK; have e149 := HF.see 149 rfl; have e151 := HF.see 151 rfl; go_wp2_with fail; clear e149 e151 HF; intro _ HF
        refine sl_op HF rfl rfl (by decide) ?_; intro K hK; have e148 := HF.see 148 rfl; have e152 := HF.see 152 rfl; go_wp2_with fail; clear e148 e152 HF; intro _ HF
        refine sl_nil (wp_cond_false (HF.at 153 rfl) (wp_exit ?_))
        dsimp only [Exit.then]
        refine sl_exit (sl_then ?_)
        have HF2 := HF.keep [0, 1, 4, 5, 7, 12]
        rw [HXV.out, ← HE.out] at HF2
        exact HEND.out _ _ HF2 HT.out
    · have hle : decide ((a : Int) + 2 + m ≤ l.length) = false := by simp; omega
      have HE := Lib.hid (symTo_all (d := r) (n := m) (by omega))
      have hz : ((a + 2 + m : Nat) : Int) = (a : Int) + 2 + m := by omega
      refine wp_seq (wp_seq (wp_region_lit ?_))
      rw [hz] at HF
      refine sl_move HF rfl rfl (.inl rfl) (by decide) rfl ?_; clear HF; intro _ HF
      refine sl_move HF rfl rfl (.inl rfl) (by decide) rfl ?_; clear HF; intro _ HF
      refine sl_op HF rfl rfl (by decide) ?_; intro K hK; have e145 := HF.see 145 rfl; go_wp2_with fail; clear e145 HF; intro _ HF
      refine sl_op HF rfl rfl (by decide) ?_; intro K hK; have e144 := HF.see 144 rfl; have e146 := HF.see 146 rfl; go_wp2_with fail; clear e144 e146 HF; intro _ HF
      refine sl_move HF rfl rfl (.inl rfl) (by decide) rfl ?_; clear HF; intro _ HF
      refine sl_skip HF rfl rfl rfl rfl (by decide) ?_; clear HF; intro _ HF
      refine sl_skip HF rfl rfl rfl rfl (by decide) ?_; clear HF; intro _ HF
      refine sl_skip HF rfl rfl rfl rfl (by decide) ?_; clear HF; intro _ HF
      refine sl_skip HF rfl rfl rfl rfl (by decide) ?_; clear HF; intro _ HF
      refine sl_op HF rfl rfl (by decide) ?_; intro K hK; have e148 := HF.see 148 rfl; have e152 := HF.see 152 rfl; go_wp2_with fail; clear e148 e152 HF; intro _ HF
      refine sl_nil (wp_cond_false (HF.at 153 rfl) (wp_exit ?_))
      dsimp only [Exit.then]
      refine sl_exit (sl_then ?_)
      have HF2 := HF.keep [0, 1, 4, 5, 7, 12]
      rw [HXV.out, ← HE.out] at HF2
      exact HEND.out _ _ HF2 HT.out
end Go.Proofs.YtefloadjolpgbaaGreatDoor

namespace Go.Proofs.YtefloadjolpgbaaGreatDoor
open Go.RowKit

theorem kind_nolet {c : UInt8} {r : List UInt8} (hc : letB c = false) : nmKind (c :: r) = if nmBin (c :: r) then 2 else 0 := by
  have h1 : nmLower (c :: r) = false := by
    rcases h : nmLower (c :: r) with _ | _
    · rfl
    · obtain ⟨c', r', e, hl⟩ := lower_head h
      injection e with e _
      rw [← e, hc] at hl
      cases hl
  have h2 : nmKw (c :: r) = false := by
    rcases h : nmKw (c :: r) with _ | _
    · rfl
    · obtain ⟨c', r', e, hl⟩ := kw_head h
      injection e with e _
      rw [← e, hc] at hl
      cases hl
  unfold nmKind
  rw [h1, h2]
  simp
theorem bin_one (c : UInt8) : nmBin [c] = binB c := by simp [nmBin]
theorem bin_two (c d : UInt8) : nmBin [c, d] = (binB c && binB d) := by simp [nmBin]

def markS : List (List UInt8) := markL.map fun c => [c]
theorem markS_contains (c : UInt8) : markS.contains [c] = markL.contains c := by
  simp [markS, markL]
theorem markS_rd (w : World) (t : TypeId) : Rd All (w.alloc (.cells (markS.map sv).toArray t)) (some ⟨w.heap.size, 0, none⟩) (markS.map sv) := by
  have := Rd.blk (Blk.new w t (markS.map sv).toArray)
  simpa using this

set_option maxHeartbeats 3200000 in
set_option maxRecDepth 100000 in
theorem rtok_btail {l : List UInt8} {a k : Nat} {w0 w : World} {ac : Act} {g4 g7 : Nat}
    (HF : Sl 260 [(0, .string (str l)), (1, .int .i64 a), (4, .pointer (some ⟨g4, 0, none⟩)), (5, .int .i64 0), (7, .pointer (some ⟨g7, 0, none⟩)), (14, .int .i64 ((a : Int) + k))] ac)
    (hl : l.length ≤ 5000) (hk : a + k ≤ l.length) (HX : Hid (tokL (l.drop a) = some (⟨3, (l.drop a).take k, 0⟩, k))) (HT : Hid (TW w0 w g4 g7 ⟨0, [], 0⟩ a)) :
    (part [1, 1, 1, 1, 1, 1, 1, 1, 1, 1, 1, 1] rtBody).wp Tryz.prog (RetP (bodyPost Tryz.prog Tryz.f8 (fun e w' => RTok l a w0 e w'))) ac w := by
  have hsz := str_size l
  have he : (str l).extract a (a + k) = str ((l.drop a).take k) := by rw [str_extract, Nat.add_sub_cancel_left]
  conv => arg 2; whnf
  refine wp_seq (wp_region_lit ?_)
  obtain ⟨f0, f1, f2, f3, q0, q1, q2⟩ := HT.out.facts
  refine sl_op HF rfl rfl (by decide) ?_; intro K hK; have e7 := HF.see 7 rfl; go_wp2_with fail; clear e7 HF; intro _ HF
  refine sl_op0 HF rfl rfl ?_; intro K hK; have e252 := HF.see 252 rfl; go_wp2_with fail; clear e252 HF; intro _ HF
  refine sl_nil (wp_seq (wp_region_lit ?_))
  have h1 := HT.out.set0 3
  clear f0 f1 f2 f3 q0 q1 q2
  generalize World.setCell w ⟨g7, 0, none⟩ (.int .i64 3) = w3 at h1 ⊢
  have H1 := Lib.hid h1
  obtain ⟨f0, f1, f2, f3, q0, q1, q2⟩ := h1.facts
  clear h1
  refine sl_move HF rfl rfl (.inl rfl) (by decide) rfl ?_; clear HF; intro _ HF
  refine sl_move HF rfl rfl (.inl rfl) (by decide) rfl ?_; clear HF; intro _ HF
  refine sl_move HF rfl rfl (.inl rfl) (by decide) rfl ?_; clear HF; intro _ HF
  refine sl_op HF rfl rfl (by decide) ?_; intro K hK; have e253 := HF.see 253 rfl; have e254 := HF.see 254 rfl; have e255 := HF.see 255 rfl; go_wp2_with fail; clear e253 e254 e255 HF; intro _ HF
  refine sl_op HF rfl rfl (by decide) ?_; intro K hK; have e7 := HF.see 7 rfl; go_wp2_with fail; clear e7 HF; intro _ HF
  refine sl_op0 HF rfl rfl ?_; intro K hK; have e257 := HF.see 257 rfl; have e256 := HF.see 256 rfl; go_wp2_with fail; clear e257 e256 HF; intro _ HF
  refine sl_nil (wp_seq (wp_region_lit ?_))
  have h1 := H1.out.set1 ((l.drop a).take k)
  clear f0 f1 f2 f3 q0 q1 q2
  generalize World.setCell w3 ⟨g7, 1, none⟩ (.string (str ((l.drop a).take k))) = w4 at h1 ⊢
  have H2 := Lib.hid h1
  obtain ⟨f0, f1, f2, f3, q0, q1, q2⟩ := h1.facts
  obtain ⟨k0, k1, k2, k3, m0, m1, m2, m3⟩ := h1.facts4
  clear h1
  refine sl_op HF rfl rfl (by decide) ?_; intro K hK; have e7 := HF.see 7 rfl; go_wp2_with fail; clear e7 HF; intro _ HF
  refine sl_move HF rfl rfl (.inl rfl) (by decide) rfl ?_; clear HF; intro _ HF
  refine sl_op0 HF rfl rfl ?_; intro K hK; have e4 := HF.see 4 rfl; have e258 := HF.see 258 rfl; go_wp2_with fail; clear e4 e258 HF; intro _ HF
  refine sl_move HF rfl rfl (.inr rfl) (by decide) rfl ?_; clear HF; intro _ HF
  refine sl_nil (wp_ret ?_)
  exact RetP.mk rfl (rtok_end (t := ⟨3, (l.drop a).take k, 0⟩) HF rfl rfl H2.out (fun t' k' h => by rw [HX.out] at h; cases h; exact ⟨rfl, by simp⟩) (fun h => by rw [HX.out] at h; cases h))

set_option maxHeartbeats 3200000 in
set_option maxRecDepth 100000 in
/-- A binary selector, or nothing. -/
theorem rtok_bin {l : List UInt8} {a : Nat} {w0 w : World} {ac : Act} {g4 g7 : Nat} {c : UInt8} {r : List UInt8}
    (HF : Sl 260 [(0, .string (str l)), (1, .int .i64 a), (4, .pointer (some ⟨g4, 0, none⟩)), (5, .int .i64 0), (7, .pointer (some ⟨g7, 0, none⟩))] ac)
    (hl : l.length ≤ 5000) (hd : l.drop a = c :: r) (hlet : letB c = false) (htok : tokL (l.drop a) = if runL binB (c :: r) = 0 then none else some (⟨3, (c :: r).take (min 2 (runL binB (c :: r))), 0⟩, min 2 (runL binB (c :: r))))
    (HT : Hid (TW w0 w g4 g7 ⟨0, [], 0⟩ a)) :
    (part [1, 1, 1, 1, 1, 1, 1, 1, 1] rtBody).wp Tryz.prog (RetP (bodyPost Tryz.prog Tryz.f8 (fun e w' => RTok l a w0 e w'))) ac w := by
  have hsz := str_size l
  have hrl : r.length + 1 + a = l.length := by
    have h1 := congrArg List.length hd
    rw [List.length_drop] at h1
    simp at h1
    omega
  have he1 : (str l).extract a (a + 1) = str [c] := by rw [str_extract, Nat.add_sub_cancel_left, hd]; rfl
  have HTOK := Lib.hid htok
  have HD := Lib.hid hd
  have HK1 := Lib.hid (show nmKind [c] = if binB c then 2 else 0 by rw [kind_nolet hlet, bin_one])
  have HK2 := Lib.hid (fun d => show nmKind [c, d] = if binB c && binB d then 2 else 0 by rw [kind_nolet hlet, bin_two])
  have HRUN := Lib.hid (show runL binB (c :: r) = if binB c then runL binB r + 1 else 0 from rfl)
  have HKC := Lib.hid (r6Kind_any [c] (by simp) w)
  rw [HK1.out] at HKC
  clear htok hd hlet HK1
  conv => arg 2; whnf
  refine wp_seq (wp_seq (wp_region_lit ?_))
  refine sl_move HF rfl rfl (.inl rfl) (by decide) rfl ?_; clear HF; intro _ HF
  refine sl_move HF rfl rfl (.inl rfl) (by decide) rfl ?_; clear HF; intro _ HF
  refine sl_move HF rfl rfl (.inl rfl) (by decide) rfl ?_; clear HF; intro _ HF
  refine sl_op HF rfl rfl (by decide) ?_; intro K hK; have e229 := HF.see 229 rfl; go_wp2_with fail; clear e229 HF; intro _ HF
  refine sl_op HF rfl rfl (by decide) ?_; intro K hK; have e227 := HF.see 227 rfl; have e228 := HF.see 228 rfl; have e230 := HF.see 230 rfl; go_wp2_with fail; clear e227 e228 e230 HF; intro _ HF
  refine sl_op HF rfl rfl (by decide) ?_; intro K hK; have e231 := HF.see 231 rfl; go_wp2_with fail
  refine HKC.out.mono ?_
  rintro e w3 ⟨rfl, hm3⟩
  have HT3 := Lib.hid (HT.out.keep hm3)
  clear hm3
  rcases hb : binB c with _ | _
  · have HX := Lib.hid (show tokL (l.drop a) = none by rw [HTOK.out, HRUN.out, hb]; rfl)
    clear hb
    simp only [Bool.false_eq_true, if_false]
    go_wp2_with fail; clear e231 HF; intro _ HF
    refine sl_op HF rfl rfl (by decide) ?_; intro K hK; have e232 := HF.see 232 rfl; go_wp2_with fail; clear e232 HF; intro _ HF
    refine sl_nil (wp_cond_true (HF.at 233 rfl) (wp_seq (wp_region_lit ?_)))
    obtain ⟨f0, f1, f2, f3, _, _, _⟩ := HT3.out.facts
    obtain ⟨k0, k1, k2, k3, m0, m1, m2, m3⟩ := HT3.out.facts4
    refine sl_op HF rfl rfl (by decide) ?_; intro K hK; have e7 := HF.see 7 rfl; go_wp2_with fail; clear e7 HF; intro _ HF
    refine sl_op0 HF rfl rfl ?_; intro K hK; have e4 := HF.see 4 rfl; have e234 := HF.see 234 rfl; go_wp2_with fail; clear e4 e234 HF; intro _ HF
    refine sl_const HF rfl rfl (.inr rfl) (by decide) ?_; clear HF; intro _ HF
    refine sl_nil (wp_ret ?_)
    try dsimp only [Exit.then]
    exact RetP.mk rfl (rtok_end (t := ⟨0, [], 0⟩) HF rfl rfl HT3.out (fun t' k h => by rw [HX.out] at h; cases h) (fun _ => rfl))
  · have HTOK2 := Lib.hid (show tokL (l.drop a) = some (⟨3, (l.drop a).take (min 2 (runL binB r + 1)), 0⟩, min 2 (runL binB r + 1)) by
      rw [HTOK.out, HRUN.out, hb, HD.out]; simp)
    have HBC := Lib.hid hb
    clear hb
    simp only [if_true]
    go_wp2_with fail; clear e231 HF; intro _ HF
    refine sl_op HF rfl rfl (by decide) ?_; intro K hK; have e232 := HF.see 232 rfl; go_wp2_with fail; clear e232 HF; intro _ HF
    refine sl_nil (wp_cond_false (HF.at 233 rfl) (wp_skip (sl_then (wp_seq (wp_region_lit ?_)))))
    refine sl_move HF rfl rfl (.inl rfl) (by decide) rfl ?_; clear HF; intro _ HF
    refine sl_op HF rfl rfl (by decide) ?_; intro K hK; have e235 := HF.see 235 rfl; go_wp2_with fail; clear e235 HF; intro _ HF
    refine sl_move HF rfl rfl (.inr rfl) (by decide) rfl ?_; clear HF; intro _ HF
    refine sl_nil (wp_seq (wp_seq (wp_region_lit ?_)))
    cases r with
    | nil =>
      have HX := Lib.hid (show tokL (l.drop a) = some (⟨3, (l.drop a).take 1, 0⟩, 1) from HTOK2.out)
      have hge : decide ((a : Int) + 1 < l.length) = false := by simp at hrl ⊢; omega
      refine sl_move HF rfl rfl (.inl rfl) (by decide) rfl ?_; clear HF; intro _ HF
      refine sl_move HF rfl rfl (.inl rfl) (by decide) rfl ?_; clear HF; intro _ HF
      refine sl_op HF rfl rfl (by decide) ?_; intro K hK; have e238 := HF.see 238 rfl; go_wp2_with fail; clear e238 HF; intro _ HF
      refine sl_op HF rfl rfl (by decide) ?_; intro K hK; have e237 := HF.see 237 rfl; have e239 := HF.see 239 rfl; go_wp2_with fail; clear e237 e239 HF; intro _ HF
      refine sl_move HF rfl rfl (.inl rfl) (by decide) rfl ?_; clear HF; intro _ HF
      refine sl_skip HF rfl rfl rfl rfl (by decide) ?_; clear HF; intro _ HF
      refine sl_skip HF rfl rfl rfl rfl (by decide) ?_; clear HF; intro _ HF
      refine sl_skip HF rfl rfl rfl rfl (by decide) ?_; clear HF; intro _ HF
      refine sl_skip HF rfl rfl rfl rfl (by decide) ?_; clear HF; intro _ HF
      refine sl_skip HF rfl rfl rfl rfl (by decide) ?_; clear HF; intro _ HF
      refine sl_skip HF rfl rfl rfl rfl (by decide) ?_; clear HF; intro _ HF
      refine sl_skip HF rfl rfl rfl rfl (by decide) ?_; clear HF; intro _ HF
      refine sl_op HF rfl rfl (by decide) ?_; intro K hK; have e241 := HF.see 241 rfl; have e248 := HF.see 248 rfl; go_wp2_with fail; clear e241 e248 HF; intro _ HF
      refine sl_nil (wp_cond_false (HF.at 249 rfl) (wp_skip (sl_then ?_)))
      exact rtok_btail (k := 1) (HF.keep [0, 1, 4, 5, 7, 14]) hl (by simp at hrl; omega) HX HT3
    | cons d q =>
      rw [List.length_cons] at hrl
      have hlt : decide ((a : Int) + 1 < l.length) = true := by simp; omega
      have he2 : (str l).extract a (a + 2) = str [c, d] := by rw [str_extract, Nat.add_sub_cancel_left, HD.out]; rfl
      have HKD := Lib.hid (r6Kind_any [c, d] (by simp) w3)
      rw [HK2.out d, HBC.out, Bool.true_and] at HKD
      refine sl_move HF rfl rfl (.inl rfl) (by decide) rfl ?_; clear HF; intro _ HF
      refine sl_move HF rfl rfl (.inl rfl) (by decide) rfl ?_; clear HF; intro _ HF
      refine sl_op HF rfl rfl (by decide) ?_; intro K hK; have e238 := HF.see 238 rfl; go_wp2_with fail; clear e238 HF; intro _ HF
      refine sl_op HF rfl rfl (by decide) ?_; intro K hK; have e237 := HF.see 237 rfl; have e239 := HF.see 239 rfl; go_wp2_with fail; clear e237 e239 HF; intro _ HF
      refine sl_move HF rfl rfl (.inl rfl) (by decide) rfl ?_; clear HF; intro _ HF
      refine sl_want HF rfl rfl rfl rfl (by decide) ?_; intro K hK; have e0 := HF.see 0 rfl; go_wp2_with fail; clear e0 HF; intro _ HF
      refine sl_want HF rfl rfl rfl rfl (by decide) ?_; intro K hK; have e1 := HF.see 1 rfl; go_wp2_with fail; clear e1 HF; intro _ HF
      refine sl_want HF rfl rfl rfl rfl (by decide) ?_; intro K hK; have e1 := HF.see 1 rfl; go_wp2_with fail; clear e1 HF; intro _ HF
      refine sl_want HF rfl rfl rfl rfl (by decide) ?_; intro K hK; have e244 := HF.see 244 rfl; go_wp2_with fail; clear e244 HF; intro _ HF
      refine sl_want HF rfl rfl rfl rfl (by decide) ?_; intro K hK; have e242 := HF.see 242 rfl; have e243 := HF.see 243 rfl; have e245 := HF.see 245 rfl; go_wp2_with fail; clear e242 e243 e245 HF; intro _ HF
      refine sl_want HF rfl rfl rfl rfl (by decide) ?_; intro K hK; have e246 := HF.see 246 rfl; go_wp2_with fail
      refine HKD.out.mono ?_
      rintro e w4 ⟨rfl, hm4⟩
      have HT4 := Lib.hid (HT3.out.keep hm4)
      clear hm4
      rcases hb : binB d with _ | _
      · have HX := Lib.hid (show tokL (l.drop a) = some (⟨3, (l.drop a).take 1, 0⟩, 1) by rw [HTOK2.out, runL, hb]; rfl)
        clear hb
        simp only [Bool.false_eq_true, if_false]
        go_wp2_with fail; clear e246 HF; intro _ HF
        refine sl_want HF rfl rfl rfl rfl (by decide) ?_; intro K hK; have e247 := HF.see 247 rfl; go_wp2_with fail; clear e247 HF; intro _ HF
        refine sl_op HF rfl rfl (by decide) ?_; intro K hK; have e241 := HF.see 241 rfl; have e248 := HF.see 248 rfl; go_wp2_with fail; clear e241 e248 HF; intro _ HF
        refine sl_nil (wp_cond_false (HF.at 249 rfl) (wp_skip (sl_then ?_)))
        exact rtok_btail (k := 1) (HF.keep [0, 1, 4, 5, 7, 14]) hl (by omega) HX HT4
      · have HX := Lib.hid (show tokL (l.drop a) = some (⟨3, (l.drop a).take 2, 0⟩, 2) by
          rw [HTOK2.out, runL, hb, if_pos rfl, Nat.min_eq_left (by omega)])
        clear hb
        simp only [if_true]
        go_wp2_with fail; clear e246 HF; intro _ HF
        refine sl_want HF rfl rfl rfl rfl (by decide) ?_; intro K hK; have e247 := HF.see 247 rfl; go_wp2_with fail; clear e247 HF; intro _ HF
        refine sl_op HF rfl rfl (by decide) ?_; intro K hK; have e241 := HF.see 241 rfl; have e248 := HF.see 248 rfl; go_wp2_with fail; clear e241 e248 HF; intro _ HF
        refine sl_nil (wp_cond_true (HF.at 249 rfl) (wp_region_lit ?_))
        refine sl_move HF rfl rfl (.inl rfl) (by decide) rfl ?_; clear HF; intro _ HF
        refine sl_op HF rfl rfl (by decide) ?_; intro K hK; have e250 := HF.see 250 rfl; go_wp2_with fail; clear e250 HF; intro _ HF
        refine sl_move HF rfl rfl (.inr rfl) (by decide) rfl ?_; clear HF; intro _ HF
        refine wpList_nil (sl_then ?_)
        exact rtok_btail (k := 2) (by have := HF.keep [0, 1, 4, 5, 7, 14]; rw [show (a : Int) + 1 + 1 = (a : Int) + ((2 : Nat) : Int) by omega] at this; exact this) hl (by omega) HX HT4

set_option maxHeartbeats 3200000 in
set_option maxRecDepth 100000 in
/-- A mark, or a binary selector. -/
theorem rtok_mark {l : List UInt8} {a : Nat} {w0 w : World} {ac : Act} {g4 g7 : Nat} {c : UInt8} {r : List UInt8}
    (HF : Sl 260 [(0, .string (str l)), (1, .int .i64 a), (4, .pointer (some ⟨g4, 0, none⟩)), (5, .int .i64 0), (7, .pointer (some ⟨g7, 0, none⟩))] ac)
    (hl : l.length ≤ 5000) (hd : l.drop a = c :: r) (hlet : letB c = false) (htok : tokL (l.drop a) = if markL.contains c then some (⟨7, [c], 0⟩, 1) else if runL binB (c :: r) = 0 then none else some (⟨3, (c :: r).take (min 2 (runL binB (c :: r))), 0⟩, min 2 (runL binB (c :: r))))
    (HT : Hid (TW w0 w g4 g7 ⟨0, [], 0⟩ a)) :
    (part [1, 1, 1, 1, 1, 1, 1, 1] rtBody).wp Tryz.prog (RetP (bodyPost Tryz.prog Tryz.f8 (fun e w' => RTok l a w0 e w'))) ac w := by
  have hsz := str_size l
  have hrl : r.length + 1 + a = l.length := by
    have h1 := congrArg List.length hd
    rw [List.length_drop] at h1
    simp at h1
    omega
  have he1 : (str l).extract a (a + 1) = str [c] := by rw [str_extract, Nat.add_sub_cancel_left, hd]; rfl
  have HTOK := Lib.hid htok
  have HIN := Lib.hid (r6In_any (some ⟨w.heap.size, 0, none⟩) 10 10 markS [c] (w.alloc (.cells (markS.map sv).toArray 9)) rfl (by omega) (markS_rd w _))
  rw [markS_contains] at HIN
  have HREST := Lib.hid (fun ac (w : World) HF h (HT : Hid (TW w0 w g4 g7 ⟨0, [], 0⟩ a)) => rtok_bin (l := l) (a := a) (w0 := w0) (w := w) (ac := ac) (g4 := g4) (g7 := g7) (c := c) (r := r) HF hl hd hlet h HT)
  have HT1 := Lib.hid (HT.out.keep ((Mod.refl Nil w).alloc (.cells (markS.map sv).toArray 9)))
  clear htok hd hlet
  conv => arg 2; whnf
  refine wp_seq (wp_seq (wp_region_lit ?_))
  refine sl_op HF rfl rfl (by decide) ?_; intro K hK; go_wp2_with fail; clear HF; intro _ HF
  refine sl_move HF rfl rfl (.inl rfl) (by decide) rfl ?_; clear HF; intro _ HF
  refine sl_move HF rfl rfl (.inl rfl) (by decide) rfl ?_; clear HF; intro _ HF
  refine sl_move HF rfl rfl (.inl rfl) (by decide) rfl ?_; clear HF; intro _ HF
  refine sl_op HF rfl rfl (by decide) ?_; intro K hK; have e213 := HF.see 213 rfl; go_wp2_with fail; clear e213 HF; intro _ HF
  refine sl_op HF rfl rfl (by decide) ?_; intro K hK; have e211 := HF.see 211 rfl; have e212 := HF.see 212 rfl; have e214 := HF.see 214 rfl; go_wp2_with fail; clear e211 e212 e214 HF; intro _ HF
  refine sl_op HF rfl rfl (by decide) ?_; intro K hK; have e210 := HF.see 210 rfl; have e215 := HF.see 215 rfl; go_wp2_with fail
  refine HIN.out.mono ?_
  rintro e w3 ⟨rfl, rfl⟩
  rcases hm : markL.contains c with _ | _
  · have HX := Lib.hid (show tokL (l.drop a) = if runL binB (c :: r) = 0 then none else some (⟨3, (c :: r).take (min 2 (runL binB (c :: r))), 0⟩, min 2 (runL binB (c :: r))) by rw [HTOK.out, hm]; rfl)
    clear hm
    go_wp2_with fail; clear e210 e215 HF; intro _ HF
    refine sl_nil (wp_cond_false (HF.at 216 rfl) (wp_skip (sl_then ?_)))
    exact HREST.out _ _ (HF.keep [0, 1, 4, 5, 7]) HX.out HT1
  · have HX := Lib.hid (show tokL (l.drop a) = some (⟨7, [c], 0⟩, 1) by rw [HTOK.out, hm]; rfl)
    clear hm
    go_wp2_with fail; clear e210 e215 HF; intro _ HF
    refine sl_nil (wp_cond_true (HF.at 216 rfl) (wp_seq (wp_region_lit ?_)))
    generalize w.alloc (.cells (markS.map sv).toArray 9) = w2 at HT1 ⊢
    obtain ⟨f0, f1, f2, f3, q0, q1, q2⟩ := HT1.out.facts
    refine sl_op HF rfl rfl (by decide) ?_; intro K hK; have e7 := HF.see 7 rfl; go_wp2_with fail; clear e7 HF; intro _ HF
    refine sl_op0 HF rfl rfl ?_; intro K hK; have e217 := HF.see 217 rfl; go_wp2_with fail; clear e217 HF; intro _ HF
    refine sl_nil (wp_seq (wp_region_lit ?_))
    have h1 := HT1.out.set0 7
    clear f0 f1 f2 f3 q0 q1 q2
    generalize World.setCell w2 ⟨g7, 0, none⟩ (.int .i64 7) = w3 at h1 ⊢
    have H1 := Lib.hid h1
    obtain ⟨f0, f1, f2, f3, q0, q1, q2⟩ := h1.facts
    clear h1
    refine sl_move HF rfl rfl (.inl rfl) (by decide) rfl ?_; clear HF; intro _ HF
    refine sl_move HF rfl rfl (.inl rfl) (by decide) rfl ?_; clear HF; intro _ HF
    refine sl_move HF rfl rfl (.inl rfl) (by decide) rfl ?_; clear HF; intro _ HF
    refine sl_op HF rfl rfl (by decide) ?_; intro K hK; have e220 := HF.see 220 rfl; go_wp2_with fail; clear e220 HF; intro _ HF
    refine sl_op HF rfl rfl (by decide) ?_; intro K hK; have e218 := HF.see 218 rfl; have e219 := HF.see 219 rfl; have e221 := HF.see 221 rfl; go_wp2_with fail; clear e218 e219 e221 HF; intro _ HF
    refine sl_op HF rfl rfl (by decide) ?_; intro K hK; have e7 := HF.see 7 rfl; go_wp2_with fail; clear e7 HF; intro _ HF
    refine sl_op0 HF rfl rfl ?_; intro K hK; have e223 := HF.see 223 rfl; have e222 := HF.see 222 rfl; go_wp2_with fail; clear e223 e222 HF; intro _ HF
    refine sl_nil (wp_seq (wp_region_lit ?_))
    have h1 := H1.out.set1 [c]
    clear f0 f1 f2 f3 q0 q1 q2
    generalize World.setCell w3 ⟨g7, 1, none⟩ (.string (str [c])) = w4 at h1 ⊢
    have H2 := Lib.hid h1
    obtain ⟨f0, f1, f2, f3, q0, q1, q2⟩ := h1.facts
    obtain ⟨k0, k1, k2, k3, m0, m1, m2, m3⟩ := h1.facts4
    clear h1
    refine sl_op HF rfl rfl (by decide) ?_; intro K hK; have e7 := HF.see 7 rfl; go_wp2_with fail; clear e7 HF; intro _ HF
    refine sl_move HF rfl rfl (.inl rfl) (by decide) rfl ?_; clear HF; intro _ HF
    refine sl_op HF rfl rfl (by decide) ?_; intro K hK; have e225 := HF.see 225 rfl; go_wp2_with fail; clear e225 HF; intro _ HF
    refine sl_op0 HF rfl rfl ?_; intro K hK; have e4 := HF.see 4 rfl; have e224 := HF.see 224 rfl; go_wp2_with fail; clear e4 e224 HF; intro _ HF
    refine sl_move HF rfl rfl (.inr rfl) (by decide) rfl ?_; clear HF; intro _ HF
    refine sl_nil (wp_ret ?_)
    try dsimp only [Exit.then]
    exact RetP.mk rfl (rtok_end (t := ⟨7, [c], 0⟩) HF rfl rfl H2.out (fun t' k' h => by rw [HX.out] at h; cases h; exact ⟨rfl, by simp⟩) (fun h => by rw [HX.out] at h; cases h))

set_option maxHeartbeats 3200000 in
set_option maxRecDepth 100000 in
/-- := , or what is left. -/
theorem rtok_assign {l : List UInt8} {a : Nat} {w0 w : World} {ac : Act} {g4 g7 : Nat} {c : UInt8} {r : List UInt8}
    (HF : Sl 260 [(0, .string (str l)), (1, .int .i64 a), (4, .pointer (some ⟨g4, 0, none⟩)), (5, .int .i64 0), (6, .int .u8 c.toNat), (7, .pointer (some ⟨g7, 0, none⟩))] ac)
    (hl : l.length ≤ 5000) (hd : l.drop a = c :: r) (hlet : letB c = false)
    (htok : tokL (l.drop a) = if c = 58 ∧ r[0]? = some 61 then some (⟨7, [58, 61], 0⟩, 2) else if markL.contains c then some (⟨7, [c], 0⟩, 1) else if runL binB (c :: r) = 0 then none else some (⟨3, (c :: r).take (min 2 (runL binB (c :: r))), 0⟩, min 2 (runL binB (c :: r))))
    (HT : Hid (TW w0 w g4 g7 ⟨0, [], 0⟩ a)) :
    (part [1, 1, 1, 1, 1, 1, 1] rtBody).wp Tryz.prog (RetP (bodyPost Tryz.prog Tryz.f8 (fun e w' => RTok l a w0 e w'))) ac w := by
  have hsz := str_size l
  have hrl : r.length + 1 + a = l.length := by
    have h1 := congrArg List.length hd
    rw [List.length_drop] at h1
    simp at h1
    omega
  have hgx : ∀ d, r[0]? = some d → l[a + 1]? = some d := fun d h => by
    rw [← List.getElem?_drop, hd]
    exact h
  have HGX := Lib.hid hgx
  have hu := u8_lt c
  have HTOK := Lib.hid htok
  have HREST := Lib.hid (fun ac HF h => rtok_mark (l := l) (a := a) (w0 := w0) (w := w) (ac := ac) (g4 := g4) (g7 := g7) (c := c) (r := r) HF hl hd hlet h HT)
  clear htok hd hlet hgx
  conv => arg 2; whnf
  by_cases h58 : c = 58
  · subst h58
    cases r with
    | nil =>
      have HX := Lib.hid (HTOK.out.trans (if_neg (by simp)))
      have hge : decide ((a : Int) + 1 < l.length) = false := by simp at hrl ⊢; omega
      refine wp_seq (wp_seq (wp_region_lit ?_))
      refine sl_move HF rfl rfl (.inl rfl) (by decide) rfl ?_; clear HF; intro _ HF
      refine sl_op HF rfl rfl (by decide) ?_; intro K hK; have e189 := HF.see 189 rfl; go_wp2_with fail; clear e189 HF; intro _ HF
      refine sl_move HF rfl rfl (.inl rfl) (by decide) rfl ?_; clear HF; intro _ HF
      refine sl_want HF rfl rfl rfl rfl (by decide) ?_; intro K hK; have e1 := HF.see 1 rfl; go_wp2_with fail; clear e1 HF; intro _ HF
      refine sl_want HF rfl rfl rfl rfl (by decide) ?_; intro K hK; have e192 := HF.see 192 rfl; go_wp2_with fail; clear e192 HF; intro _ HF
      refine sl_want HF rfl rfl rfl rfl (by decide) ?_; intro K hK; have e0 := HF.see 0 rfl; go_wp2_with fail; clear e0 HF; intro _ HF
      refine sl_want HF rfl rfl rfl rfl (by decide) ?_; intro K hK; have e194 := HF.see 194 rfl; go_wp2_with fail; clear e194 HF; intro _ HF
      refine sl_want HF rfl rfl rfl rfl (by decide) ?_; intro K hK; have e193 := HF.see 193 rfl; have e195 := HF.see 195 rfl; go_wp2_with fail; clear e193 e195 HF; intro _ HF
      refine sl_op HF rfl rfl (by decide) ?_; intro K hK; have e191 := HF.see 191 rfl; have e196 := HF.see 196 rfl; go_wp2_with fail; clear e191 e196 HF; intro _ HF
      refine sl_move HF rfl rfl (.inl rfl) (by decide) rfl ?_; clear HF; intro _ HF
      refine sl_skip HF rfl rfl rfl rfl (by decide) ?_; clear HF; intro _ HF
      refine sl_skip HF rfl rfl rfl rfl (by decide) ?_; clear HF; intro _ HF
      refine sl_skip HF rfl rfl rfl rfl (by decide) ?_; clear HF; intro _ HF
      refine sl_skip HF rfl rfl rfl rfl (by decide) ?_; clear HF; intro _ HF
      refine sl_skip HF rfl rfl rfl rfl (by decide) ?_; clear HF; intro _ HF
      refine sl_op HF rfl rfl (by decide) ?_; intro K hK; have e198 := HF.see 198 rfl; have e203 := HF.see 203 rfl; go_wp2_with fail; clear e198 e203 HF; intro _ HF
      refine sl_nil (wp_cond_false (HF.at 204 rfl) (wp_skip (sl_then ?_)))
      exact HREST.out _ (HF.keep [0, 1, 4, 5, 7]) HX.out
    | cons d q =>
      have hg := str_getE (HGX.out d rfl) (by simp at hrl; omega)
      have hud := u8_lt d
      rw [List.length_cons] at hrl
      have hlt : decide ((a : Int) + 1 < l.length) = true := by simp; omega
      by_cases h61 : d = 61
      · subst h61
        have HX := Lib.hid (HTOK.out.trans (if_pos ⟨rfl, rfl⟩))
        refine wp_seq (wp_seq (wp_region_lit ?_))
        refine sl_move HF rfl rfl (.inl rfl) (by decide) rfl ?_; clear HF; intro _ HF
        refine sl_op HF rfl rfl (by decide) ?_; intro K hK; have e189 := HF.see 189 rfl; go_wp2_with fail; clear e189 HF; intro _ HF
        refine sl_move HF rfl rfl (.inl rfl) (by decide) rfl ?_; clear HF; intro _ HF
        refine sl_want HF rfl rfl rfl rfl (by decide) ?_; intro K hK; have e1 := HF.see 1 rfl; go_wp2_with fail; clear e1 HF; intro _ HF
        refine sl_want HF rfl rfl rfl rfl (by decide) ?_; intro K hK; have e192 := HF.see 192 rfl; go_wp2_with fail; clear e192 HF; intro _ HF
        refine sl_want HF rfl rfl rfl rfl (by decide) ?_; intro K hK; have e0 := HF.see 0 rfl; go_wp2_with fail; clear e0 HF; intro _ HF
        refine sl_want HF rfl rfl rfl rfl (by decide) ?_; intro K hK; have e194 := HF.see 194 rfl; go_wp2_with fail; clear e194 HF; intro _ HF
        refine sl_want HF rfl rfl rfl rfl (by decide) ?_; intro K hK; have e193 := HF.see 193 rfl; have e195 := HF.see 195 rfl; go_wp2_with fail; clear e193 e195 HF; intro _ HF
        refine sl_op HF rfl rfl (by decide) ?_; intro K hK; have e191 := HF.see 191 rfl; have e196 := HF.see 196 rfl; go_wp2_with fail; clear e191 e196 HF; intro _ HF
        refine sl_move HF rfl rfl (.inl rfl) (by decide) rfl ?_; clear HF; intro _ HF
        refine sl_want HF rfl rfl rfl rfl (by decide) ?_; intro K hK; have e0 := HF.see 0 rfl; go_wp2_with fail; clear e0 HF; intro _ HF
        refine sl_want HF rfl rfl rfl rfl (by decide) ?_; intro K hK; have e1 := HF.see 1 rfl; go_wp2_with fail; clear e1 HF; intro _ HF
        refine sl_want HF rfl rfl rfl rfl (by decide) ?_; intro K hK; have e200 := HF.see 200 rfl; go_wp2_with fail; clear e200 HF; intro _ HF
        refine sl_want HF rfl rfl rfl rfl (by decide) ?_; intro K hK; have e199 := HF.see 199 rfl; have e201 := HF.see 201 rfl; go_wp2_with fail; clear e199 e201 HF; intro _ HF
        refine sl_want HF rfl rfl rfl rfl (by decide) ?_; intro K hK; have e202 := HF.see 202 rfl; go_wp2_with fail; clear e202 HF; intro _ HF
        refine sl_op HF rfl rfl (by decide) ?_; intro K hK; have e198 := HF.see 198 rfl; have e203 := HF.see 203 rfl; go_wp2_with fail; clear e198 e203 HF; intro _ HF
        refine sl_nil (wp_cond_true (HF.at 204 rfl) (wp_seq (wp_region_lit ?_)))
        obtain ⟨f0, f1, f2, f3, q0, q1, q2⟩ := HT.out.facts
        refine sl_op HF rfl rfl (by decide) ?_; intro K hK; have e7 := HF.see 7 rfl; go_wp2_with fail; clear e7 HF; intro _ HF
        refine sl_op0 HF rfl rfl ?_; intro K hK; have e205 := HF.see 205 rfl; go_wp2_with fail; clear e205 HF; intro _ HF
        refine sl_nil (wp_seq (wp_region_lit ?_))
        have h1 := HT.out.set0 7
        clear f0 f1 f2 f3 q0 q1 q2
        generalize World.setCell w ⟨g7, 0, none⟩ (.int .i64 7) = w3 at h1 ⊢
        have H1 := Lib.hid h1
        obtain ⟨f0, f1, f2, f3, q0, q1, q2⟩ := h1.facts
        clear h1
        refine sl_op HF rfl rfl (by decide) ?_; intro K hK; have e7 := HF.see 7 rfl; go_wp2_with fail; clear e7 HF; intro _ HF
        refine sl_op0 HF rfl rfl ?_; intro K hK; have e206 := HF.see 206 rfl; go_wp2_with fail; clear e206 HF; intro _ HF
        refine sl_nil (wp_seq (wp_region_lit ?_))
        have h1 := H1.out.set1 [58, 61]
        clear f0 f1 f2 f3 q0 q1 q2
        have hstr : (.string (str [58, 61]) : Value) = .string ⟨#[58, 61]⟩ := rfl
        rw [hstr] at h1
        clear hstr
        generalize World.setCell w3 ⟨g7, 1, none⟩ (.string ⟨#[58, 61]⟩) = w4 at h1 ⊢
        have H2 := Lib.hid h1
        obtain ⟨f0, f1, f2, f3, q0, q1, q2⟩ := h1.facts
        obtain ⟨k0, k1, k2, k3, m0, m1, m2, m3⟩ := h1.facts4
        clear h1
        refine sl_op HF rfl rfl (by decide) ?_; intro K hK; have e7 := HF.see 7 rfl; go_wp2_with fail; clear e7 HF; intro _ HF
        refine sl_move HF rfl rfl (.inl rfl) (by decide) rfl ?_; clear HF; intro _ HF
        refine sl_op HF rfl rfl (by decide) ?_; intro K hK; have e208 := HF.see 208 rfl; go_wp2_with fail; clear e208 HF; intro _ HF
        refine sl_op0 HF rfl rfl ?_; intro K hK; have e4 := HF.see 4 rfl; have e207 := HF.see 207 rfl; go_wp2_with fail; clear e4 e207 HF; intro _ HF
        refine sl_move HF rfl rfl (.inr rfl) (by decide) rfl ?_; clear HF; intro _ HF
        refine sl_nil (wp_ret ?_)
        try dsimp only [Exit.then]
        exact RetP.mk rfl (rtok_end (t := ⟨7, [58, 61], 0⟩) HF rfl rfl H2.out (fun t' k' h => by rw [HX.out] at h; cases h; exact ⟨rfl, by simp⟩) (fun h => by rw [HX.out] at h; cases h))
      · have hne2 : ((d.toNat : Int) == 61) = false := ne_of_u8 h61
        have HX := Lib.hid (HTOK.out.trans (if_neg (by simp [h61])))
        clear h61
        refine wp_seq (wp_seq (wp_region_lit ?_))
        refine sl_move HF rfl rfl (.inl rfl) (by decide) rfl ?_; clear HF; intro _ HF
        refine sl_op HF rfl rfl (by decide) ?_; intro K hK; have e189 := HF.see 189 rfl; go_wp2_with fail; clear e189 HF; intro _ HF
        refine sl_move HF rfl rfl (.inl rfl) (by decide) rfl ?_; clear HF; intro _ HF
        refine sl_want HF rfl rfl rfl rfl (by decide) ?_; intro K hK; have e1 := HF.see 1 rfl; go_wp2_with fail; clear e1 HF; intro _ HF
        refine sl_want HF rfl rfl rfl rfl (by decide) ?_; intro K hK; have e192 := HF.see 192 rfl; go_wp2_with fail; clear e192 HF; intro _ HF
        refine sl_want HF rfl rfl rfl rfl (by decide) ?_; intro K hK; have e0 := HF.see 0 rfl; go_wp2_with fail; clear e0 HF; intro _ HF
        refine sl_want HF rfl rfl rfl rfl (by decide) ?_; intro K hK; have e194 := HF.see 194 rfl; go_wp2_with fail; clear e194 HF; intro _ HF
        refine sl_want HF rfl rfl rfl rfl (by decide) ?_; intro K hK; have e193 := HF.see 193 rfl; have e195 := HF.see 195 rfl; go_wp2_with fail; clear e193 e195 HF; intro _ HF
        refine sl_op HF rfl rfl (by decide) ?_; intro K hK; have e191 := HF.see 191 rfl; have e196 := HF.see 196 rfl; go_wp2_with fail; clear e191 e196 HF; intro _ HF
        refine sl_move HF rfl rfl (.inl rfl) (by decide) rfl ?_; clear HF; intro _ HF
        refine sl_want HF rfl rfl rfl rfl (by decide) ?_; intro K hK; have e0 := HF.see 0 rfl; go_wp2_with fail; clear e0 HF; intro _ HF
        refine sl_want HF rfl rfl rfl rfl (by decide) ?_; intro K hK; have e1 := HF.see 1 rfl; go_wp2_with fail; clear e1 HF; intro _ HF
        refine sl_want HF rfl rfl rfl rfl (by decide) ?_; intro K hK; have e200 := HF.see 200 rfl; go_wp2_with fail; clear e200 HF; intro _ HF
        refine sl_want HF rfl rfl rfl rfl (by decide) ?_; intro K hK; have e199 := HF.see 199 rfl; have e201 := HF.see 201 rfl; go_wp2_with fail; clear e199 e201 HF; intro _ HF
        refine sl_want HF rfl rfl rfl rfl (by decide) ?_; intro K hK; have e202 := HF.see 202 rfl; go_wp2_with fail; clear e202 HF; intro _ HF
        refine sl_op HF rfl rfl (by decide) ?_; intro K hK; have e198 := HF.see 198 rfl; have e203 := HF.see 203 rfl; go_wp2_with fail; clear e198 e203 HF; intro _ HF
        refine sl_nil (wp_cond_false (HF.at 204 rfl) (wp_skip (sl_then ?_)))
        exact HREST.out _ (HF.keep [0, 1, 4, 5, 7]) HX.out
  · have hne2 : ((c.toNat : Int) == 58) = false := ne_of_u8 h58
    have HX := Lib.hid (HTOK.out.trans (if_neg (by simp [h58])))
    clear h58
    refine wp_seq (wp_seq (wp_region_lit ?_))
    refine sl_move HF rfl rfl (.inl rfl) (by decide) rfl ?_; clear HF; intro _ HF
    refine sl_op HF rfl rfl (by decide) ?_; intro K hK; have e189 := HF.see 189 rfl; go_wp2_with fail; clear e189 HF; intro _ HF
    refine sl_move HF rfl rfl (.inl rfl) (by decide) rfl ?_; clear HF; intro _ HF
    refine sl_skip HF rfl rfl rfl rfl (by decide) ?_; clear HF; intro _ HF
    refine sl_skip HF rfl rfl rfl rfl (by decide) ?_; clear HF; intro _ HF
    refine sl_skip HF rfl rfl rfl rfl (by decide) ?_; clear HF; intro _ HF
    refine sl_skip HF rfl rfl rfl rfl (by decide) ?_; clear HF; intro _ HF
    refine sl_skip HF rfl rfl rfl rfl (by decide) ?_; clear HF; intro _ HF
    refine sl_op HF rfl rfl (by decide) ?_; intro K hK; have e191 := HF.see 191 rfl; have e196 := HF.see 196 rfl; go_wp2_with fail; clear e191 e196 HF; intro _ HF
    refine sl_move HF rfl rfl (.inl rfl) (by decide) rfl ?_; clear HF; intro _ HF
    refine sl_skip HF rfl rfl rfl rfl (by decide) ?_; clear HF; intro _ HF
    refine sl_skip HF rfl rfl rfl rfl (by decide) ?_; clear HF; intro _ HF
    refine sl_skip HF rfl rfl rfl rfl (by decide) ?_; clear HF; intro _ HF
    refine sl_skip HF rfl rfl rfl rfl (by decide) ?_; clear HF; intro _ HF
    refine sl_skip HF rfl rfl rfl rfl (by decide) ?_; clear HF; intro _ HF
    refine sl_op HF rfl rfl (by decide) ?_; intro K hK; have e198 := HF.see 198 rfl; have e203 := HF.see 203 rfl; go_wp2_with fail; clear e198 e203 HF; intro _ HF
    refine sl_nil (wp_cond_false (HF.at 204 rfl) (wp_skip (sl_then ?_)))
    exact HREST.out _ (HF.keep [0, 1, 4, 5, 7]) HX.out

set_option maxHeartbeats 3200000 in
set_option maxRecDepth 100000 in
/-- Token, whole. -/
theorem rToken_any (l : List UInt8) (a : Nat) (hl : l.length ≤ 5000) (ha : a < l.length) (w : World) : Calls Tryz.prog 8 #[.string (str l), .int .i64 a] w fun e w' => RTok l a w e w' := by
  have hsz := str_size l
  obtain ⟨c, hc⟩ : ∃ c, l[a]? = some c := ⟨_, List.getElem?_eq_getElem ha⟩
  obtain ⟨r, hd⟩ : ∃ r, l.drop a = c :: r := ⟨_, by rw [List.drop_eq_getElem_cons ha, (List.getElem?_eq_some_iff.1 hc).2]⟩
  have hg := str_getE hc (by omega)
  have hu := u8_lt c
  have HC := Lib.hid hc
  have HD := Lib.hid hd
  have hT : TW w ((w.alloc (.cells tok0 30)).alloc (.cells (tokArr ⟨0, [], 0⟩ a) 30)) w.heap.size (w.heap.size + 1) ⟨0, [], 0⟩ a :=
    ⟨(Blk.new w _ _).alloc _, by have := Blk.new (w.alloc (.cells tok0 30)) 30 (tokArr ⟨0, [], 0⟩ a); simpa using this, by omega, Nat.le_refl _, by omega, ((Mod.refl _ _).alloc _).alloc _⟩
  have HT := Lib.hid hT
  clear hc hd hT
  refine sl_enter (n := 260) (fn := Tryz.f8) (c := rtBody) Tryz.func8 rfl rfl (by simp) fun ac HF => ?_
  conv => arg 2; whnf
  refine wp_seq (wp_region_lit ?_)
  refine sl_op HF rfl rfl (by decide) ?_; intro K hK; go_wp2_with fail; clear HF; intro _ HF
  refine sl_const HF rfl rfl (.inr rfl) (by decide) ?_; clear HF; intro _ HF
  refine sl_nil (wp_seq (wp_region_lit ?_))
  refine sl_move HF rfl rfl (.inl rfl) (by decide) rfl ?_; clear HF; intro _ HF
  refine sl_move HF rfl rfl (.inl rfl) (by decide) rfl ?_; clear HF; intro _ HF
  refine sl_op HF rfl rfl (by decide) ?_; intro K hK; have e15 := HF.see 15 rfl; have e16 := HF.see 16 rfl; go_wp2_with fail; clear e15 e16 HF; intro _ HF
  refine sl_move HF rfl rfl (.inr rfl) (by decide) rfl ?_; clear HF; intro _ HF
  refine sl_nil (wp_seq (wp_region_lit ?_))
  refine sl_move HF rfl rfl (.inl rfl) (by decide) rfl ?_; clear HF; intro _ HF
  refine sl_op HF rfl rfl (by decide) ?_; intro K hK; have e18 := HF.see 18 rfl; go_wp2_with fail; clear e18 HF; intro _ HF
  refine sl_op HF rfl rfl (by decide) ?_; intro K hK; go_wp2_with fail; clear HF; intro _ HF
  refine sl_op0 HF rfl rfl ?_; intro K hK; have e7 := HF.see 7 rfl; have e19 := HF.see 19 rfl; go_wp2_with fail; clear e7 e19 HF; intro _ HF
  have HF2 := HF.keep [0, 1, 4, 5, 6, 7]
  have hw : World.alloc (World.alloc w (.cells #[.int .i64 0, .string ⟨#[]⟩, .int .i64 0, .int .i64 0] 30)) (.cells #[.int .i64 0, .string ⟨#[]⟩, .int .i64 0, .int .i64 a] 30) = (w.alloc (.cells tok0 30)).alloc (.cells (tokArr ⟨0, [], 0⟩ a) 30) := rfl
  rw [hw]
  clear hw HF
  have HF := HF2
  clear HF2
  generalize (w.alloc (.cells tok0 30)).alloc (.cells (tokArr ⟨0, [], 0⟩ a) 30) = W at HT ⊢
  generalize w.heap.size + 1 = g7 at HT HF
  generalize w.heap.size = g4 at HT HF
  refine sl_nil (wp_seq (wp_seq (wp_region_lit ?_)))
  refine sl_move HF rfl rfl (.inl rfl) (by decide) rfl ?_; clear HF; intro _ HF
  refine sl_op HF rfl rfl (by decide) ?_; intro K hK; have e20 := HF.see 20 rfl; go_wp2_with fail
  refine (rLetter_any c _).mono ?_
  rintro e w3 ⟨rfl, rfl⟩
  rcases hlet : letB c with _ | _
  · have HLET := Lib.hid hlet
    clear hlet
    go_wp2_with fail; clear e20 HF; intro _ HF
    refine sl_nil (wp_cond_false (HF.at 21 rfl) (wp_skip (sl_then (wp_seq (wp_seq (wp_region_lit ?_))))))
    refine sl_move HF rfl rfl (.inl rfl) (by decide) rfl ?_; clear HF; intro _ HF
    refine sl_op HF rfl rfl (by decide) ?_; intro K hK; have e65 := HF.see 65 rfl; go_wp2_with fail
    refine (rDigit_any c _).mono ?_
    rintro e w4 ⟨rfl, rfl⟩
    rcases hdig : digB c with _ | _
    · have HDIG := Lib.hid hdig
      clear hdig
      have HTK := Lib.hid (show tokL (l.drop a) = if c = 39 then (txtL r).map fun x => (⟨5, x.1, 0⟩, x.2 + 1)
          else if c = 35 then
            if symL r = 0 then none else some (⟨6, r.take (symL r), 0⟩, symL r + 1)
          else if c = 58 ∧ r[0]? = some 61 then some (⟨7, [58, 61], 0⟩, 2)
          else if markL.contains c then some (⟨7, [c], 0⟩, 1)
          else if runL binB (c :: r) = 0 then none else some (⟨3, (c :: r).take (min 2 (runL binB (c :: r))), 0⟩, min 2 (runL binB (c :: r))) by
        rw [HD.out, tokL, HLET.out, HDIG.out]; rfl)
      go_wp2_with fail; clear e65 HF; intro _ HF
      refine sl_nil (wp_cond_false (HF.at 66 rfl) (wp_skip (sl_then (wp_seq (wp_seq (wp_region_lit ?_))))))
      by_cases h39 : c = 39
      · subst h39
        refine sl_move HF rfl rfl (.inl rfl) (by decide) rfl ?_; clear HF; intro _ HF
        refine sl_op HF rfl rfl (by decide) ?_; intro K hK; have e98 := HF.see 98 rfl; go_wp2_with fail; clear e98 HF; intro _ HF
        refine sl_nil (wp_cond_true (HF.at 99 rfl) (wp_ret_then ?_))
        exact rtok_text (HF.keep [0, 1, 4, 5, 6, 7]) hl HD.out HT.out HT.out.b4.lt HT.out.b7.lt
      · have hne2 : ((c.toNat : Int) == 39) = false := ne_of_u8 h39
        have HTK2 := Lib.hid (HTK.out.trans (if_neg h39))
        clear h39
        refine sl_move HF rfl rfl (.inl rfl) (by decide) rfl ?_; clear HF; intro _ HF
        refine sl_op HF rfl rfl (by decide) ?_; intro K hK; have e98 := HF.see 98 rfl; go_wp2_with fail; clear e98 HF; intro _ HF
        refine sl_nil (wp_cond_false (HF.at 99 rfl) (wp_skip (sl_then (wp_seq (wp_seq (wp_region_lit ?_))))))
        by_cases h35 : c = 35
        · subst h35
          refine sl_move HF rfl rfl (.inl rfl) (by decide) rfl ?_; clear HF; intro _ HF
          refine sl_op HF rfl rfl (by decide) ?_; intro K hK; have e140 := HF.see 140 rfl; go_wp2_with fail; clear e140 HF; intro _ HF
          refine sl_nil (wp_cond_true (HF.at 141 rfl) (wp_ret_then ?_))
          exact rtok_sym (HF.keep [0, 1, 4, 5, 6, 7]) hl HD.out HT.out
        · have hne3 : ((c.toNat : Int) == 35) = false := ne_of_u8 h35
          have HTK3 := Lib.hid (HTK2.out.trans (if_neg h35))
          clear h35
          refine sl_move HF rfl rfl (.inl rfl) (by decide) rfl ?_; clear HF; intro _ HF
          refine sl_op HF rfl rfl (by decide) ?_; intro K hK; have e140 := HF.see 140 rfl; go_wp2_with fail; clear e140 HF; intro _ HF
          refine sl_nil (wp_cond_false (HF.at 141 rfl) (wp_skip (sl_then ?_)))
          exact wp_ret_out (rtok_assign (HF.keep [0, 1, 4, 5, 6, 7]) hl HD.out HLET.out HTK3.out HT)
    · have HDIG := Lib.hid hdig
      clear hdig
      go_wp2_with fail; clear e65 HF; intro _ HF
      refine sl_nil (wp_cond_true (HF.at 66 rfl) (wp_ret_then ?_))
      exact rtok_digit (HF.keep [0, 1, 4, 5, 6, 7]) hl HC.out HLET.out HDIG.out HT.out
  · have HLET := Lib.hid hlet
    clear hlet
    go_wp2_with fail; clear e20 HF; intro _ HF
    refine sl_nil (wp_cond_true (HF.at 21 rfl) (wp_ret_then ?_))
    exact rtok_letter (HF.keep [0, 1, 4, 5, 6, 7]) hl HC.out HLET.out HT.out
end Go.Proofs.YtefloadjolpgbaaGreatDoor
