/- The document's Token: a symbol. -/
import Derived.Test.YtpjpmlhnhcmacaaGreatDoorRnE
namespace Go.Proofs.YtpjpmlhnhcmacaaGreatDoor
open Go.RowKit

theorem lower_len {m : List UInt8} (h : nmLower m = true) : m.length ≤ 40 := by
  unfold nmLower nmIs at h
  simp only [Bool.and_eq_true, decide_eq_true_eq] at h
  exact h.1.2
theorem flat_len : ∀ (ps : List (List UInt8)), (∀ p ∈ ps, p.length ≤ 40) → (ps.flatMap (· ++ [58])).length ≤ ps.length * 41
  | [], _ => by simp
  | p :: ps, h => by
    have h1 := flat_len ps (fun q hq => h q (List.mem_cons_of_mem _ hq))
    have h2 := h p (List.mem_cons_self ..)
    simp only [List.flatMap_cons, List.length_append, List.length_cons, List.length_nil]
    omega
theorem cand_len {l : List UInt8} {k : Nat} (h : candB l k = true) : k ≤ 410 := by
  have hk := cand_kind h
  have hl := cand_le h
  have ht : (l.take k).length = k := by rw [List.length_take]; omega
  rcases kind_pos hk with h1 | h1 | h1
  · have := lower_len h1
    omega
  · have := (bin_all h1).1
    omega
  · have h2 := kw_parts h1
    have h3 := congrArg List.length (kw_join h1)
    have h4 := flat_len _ (fun p hp => lower_len (h2.2.2.2 p hp))
    have := h2.2.2.1
    omega
theorem symTo_all {d : List UInt8} {n : Nat} (h : d.length ≤ n ∨ 410 ≤ n) : symL d = symTo d n :=
  symL_of (symTo_cand d n) fun j hj => symTo_most d n j (by have := cand_le hj; have := cand_len hj; omega) hj

/-- The place behind the best candidate so far. -/
def bestV (a s : Nat) : Int := if s = 0 then -1 else ((a + 1 + s : Nat) : Int)
theorem bestV_ge (a s : Nat) : -1 ≤ bestV a s ∧ bestV a s ≤ a + 1 + s := by
  unfold bestV
  split <;> omega

def SyI (w0 : World) (l : List UInt8) (a g4 g7 : Nat) (ac : Act) (w : World) : Prop :=
  ∃ m : Nat, Sl 260 [(0, .string (str l)), (1, .int .i64 a), (4, .pointer (some ⟨g4, 0, none⟩)), (5, .int .i64 0), (7, .pointer (some ⟨g7, 0, none⟩)), (12, .int .i64 (bestV a (symTo (l.drop (a + 1)) m))), (13, .int .i64 ((a + 2 + m : Nat) : Int))] ac ∧
    TW w0 w g4 g7 ⟨0, [], 0⟩ a ∧ m ≤ 500

set_option maxHeartbeats 3200000 in
set_option maxRecDepth 100000 in
theorem rtok_ycond {Q : Exit → Act → World → Prop} {l : List UInt8} {a g4 g7 m : Nat} {w : World} {ac : Act} {b : Bool} {x : Int}
    (HF : Sl 260 [(0, .string (str l)), (1, .int .i64 a), (4, .pointer (some ⟨g4, 0, none⟩)), (5, .int .i64 0), (7, .pointer (some ⟨g7, 0, none⟩)), (12, .int .i64 x), (13, .int .i64 ((a + 2 + m : Nat) : Int)), (175, .bool b)] ac)
    (hQ : ∀ ac', Sl 260 [(0, .string (str l)), (1, .int .i64 a), (4, .pointer (some ⟨g4, 0, none⟩)), (5, .int .i64 0), (7, .pointer (some ⟨g7, 0, none⟩)), (12, .int .i64 (if b then ((a + 2 + m : Nat) : Int) else x)), (13, .int .i64 ((a + 2 + m : Nat) : Int))] ac' → Q .normal ac' w) :
    (part [1, 1, 1, 1, 1, 1, 0, 1, 0, 1, 0, 1, 0, 0, 1, 0, 0, 1] rtBody).wp Tryz.prog Q ac w := by
  have HQ := Lib.hid hQ
  clear hQ
  conv => arg 2; whnf
  cases b
  · exact wp_cond_false (HF.at 175 rfl) (wp_skip (HQ.out _ (HF.keep [0, 1, 4, 5, 7, 12, 13])))
  · refine wp_cond_true (HF.at 175 rfl) (wp_region_lit ?_)
    refine sl_move HF rfl rfl (.inl rfl) (by decide) rfl ?_; clear HF; intro _ HF
    refine sl_move HF rfl rfl (.inr rfl) (by decide) rfl ?_; clear HF; intro _ HF
    exact wpList_nil (HQ.out _ (HF.keep [0, 1, 4, 5, 7, 12, 13]))

set_option maxHeartbeats 3200000 in
set_option maxRecDepth 100000 in
theorem rtok_ytail {l : List UInt8} {a g4 g7 : Nat} {w0 w : World} {ac : Act} {r : List UInt8}
    (HF : Sl 260 [(0, .string (str l)), (1, .int .i64 a), (4, .pointer (some ⟨g4, 0, none⟩)), (5, .int .i64 0), (7, .pointer (some ⟨g7, 0, none⟩)), (12, .int .i64 (bestV a (symL r)))] ac)
    (hl : l.length ≤ 5000) (hr : l.drop (a + 1) = r) (hd : l.drop a = 35 :: r) (h : TW w0 w g4 g7 ⟨0, [], 0⟩ a) :
    (part [1, 1, 1, 1, 1, 1, 0, 1, 0, 1, 1] rtBody).wp Tryz.prog (RetP (bodyPost Tryz.prog Tryz.f16 (fun e w' => RTok l a w0 e w'))) ac w := by
  have hsz := str_size l
  obtain ⟨n, hn⟩ : ∃ n, n = symL r := ⟨_, rfl⟩
  have hnl : n ≤ r.length := by rw [hn]; exact symTo_le r r.length
  have hrl : r.length + a + 1 = l.length := by
    have h1 := congrArg List.length hd
    rw [List.length_drop] at h1
    simp at h1
    omega
  have HTOK := Lib.hid (show tokL (l.drop a) = if n = 0 then none else some (⟨6, r.take n, 0⟩, n + 1) by rw [hd, hn]; rfl)
  rw [← hn] at HF
  have HT := Lib.hid h
  have he : (str l).extract (a + 1) (a + 1 + n) = str (r.take n) := by rw [str_extract, Nat.add_sub_cancel_left, hr]
  clear hn hr hd h
  conv => arg 2; whnf
  by_cases h0 : n = 0
  · have HX := Lib.hid (show tokL (l.drop a) = none by rw [HTOK.out, if_pos h0])
    have hb : bestV a n = -1 := by unfold bestV; rw [if_pos h0]
    rw [hb] at HF
    clear hb h0
    refine wp_seq (wp_seq (wp_region_lit ?_))
    refine sl_move HF rfl rfl (.inl rfl) (by decide) rfl ?_; clear HF; intro _ HF
    refine sl_op HF rfl rfl (by decide) ?_; intro K hK; have e177 := HF.see 177 rfl; go_wp2_with fail; clear e177 HF; intro _ HF
    refine sl_nil (wp_cond_true (HF.at 178 rfl) (wp_seq (wp_region_lit ?_)))
    obtain ⟨f0, f1, f2, f3, _, _, _⟩ := HT.out.facts
    obtain ⟨k0, k1, k2, k3, m0, m1, m2, m3⟩ := HT.out.facts4
    refine sl_op HF rfl rfl (by decide) ?_; intro K hK; have e7 := HF.see 7 rfl; go_wp2_with fail; clear e7 HF; intro _ HF
    refine sl_op0 HF rfl rfl ?_; intro K hK; have e4 := HF.see 4 rfl; have e179 := HF.see 179 rfl; go_wp2_with fail; clear e4 e179 HF; intro _ HF
    refine sl_const HF rfl rfl (.inr rfl) (by decide) ?_; clear HF; intro _ HF
    refine sl_nil (wp_ret ?_)
    try dsimp only [Exit.then]
    exact RetP.mk rfl (rtok_end (t := ⟨0, [], 0⟩) HF rfl rfl HT.out (fun t' k h => by rw [HX.out] at h; cases h) (fun _ => rfl))
  · have HX := Lib.hid (show tokL (l.drop a) = some (⟨6, r.take n, 0⟩, n + 1) by rw [HTOK.out, if_neg h0])
    have hb : bestV a n = (a : Int) + 1 + n := by unfold bestV; rw [if_neg h0]; omega
    rw [hb] at HF
    have hlt : decide ((a : Int) + 1 + n < 0) = false := by simp; omega
    clear hb h0
    refine wp_seq (wp_seq (wp_region_lit ?_))
    refine sl_move HF rfl rfl (.inl rfl) (by decide) rfl ?_; clear HF; intro _ HF
    refine sl_op HF rfl rfl (by decide) ?_; intro K hK; have e177 := HF.see 177 rfl; go_wp2_with fail; clear e177 HF; intro _ HF
    refine sl_nil (wp_cond_false (HF.at 178 rfl) (wp_skip (sl_then (wp_seq (wp_region_lit ?_)))))
    obtain ⟨f0, f1, f2, f3, q0, q1, q2⟩ := HT.out.facts
    refine sl_op HF rfl rfl (by decide) ?_; intro K hK; have e7 := HF.see 7 rfl; go_wp2_with fail; clear e7 HF; intro _ HF
    refine sl_op0 HF rfl rfl ?_; intro K hK; have e180 := HF.see 180 rfl; go_wp2_with fail; clear e180 HF; intro _ HF
    refine sl_nil (wp_seq (wp_region_lit ?_))
    have h1 := HT.out.set0 6
    clear f0 f1 f2 f3 q0 q1 q2
    generalize World.setCell w ⟨g7, 0, none⟩ (.int .i64 6) = w3 at h1 ⊢
    have H1 := Lib.hid h1
    obtain ⟨f0, f1, f2, f3, q0, q1, q2⟩ := h1.facts
    clear h1
    refine sl_move HF rfl rfl (.inl rfl) (by decide) rfl ?_; clear HF; intro _ HF
    refine sl_move HF rfl rfl (.inl rfl) (by decide) rfl ?_; clear HF; intro _ HF
    refine sl_op HF rfl rfl (by decide) ?_; intro K hK; have e182 := HF.see 182 rfl; go_wp2_with fail; clear e182 HF; intro _ HF
    refine sl_move HF rfl rfl (.inl rfl) (by decide) rfl ?_; clear HF; intro _ HF
    refine sl_op HF rfl rfl (by decide) ?_; intro K hK; have e181 := HF.see 181 rfl; have e183 := HF.see 183 rfl; have e184 := HF.see 184 rfl; go_wp2_with fail; clear e181 e183 e184 HF; intro _ HF
    refine sl_op HF rfl rfl (by decide) ?_; intro K hK; have e7 := HF.see 7 rfl; go_wp2_with fail; clear e7 HF; intro _ HF
    refine sl_op0 HF rfl rfl ?_; intro K hK; have e186 := HF.see 186 rfl; have e185 := HF.see 185 rfl; go_wp2_with fail; clear e186 e185 HF; intro _ HF
    refine sl_nil (wp_seq (wp_region_lit ?_))
    have h1 := H1.out.set1 (r.take n)
    clear f0 f1 f2 f3 q0 q1 q2
    generalize World.setCell w3 ⟨g7, 1, none⟩ (.string (str (r.take n))) = w4 at h1 ⊢
    have H2 := Lib.hid h1
    obtain ⟨f0, f1, f2, f3, q0, q1, q2⟩ := h1.facts
    obtain ⟨k0, k1, k2, k3, m0, m1, m2, m3⟩ := h1.facts4
    clear h1
    refine sl_op HF rfl rfl (by decide) ?_; intro K hK; have e7 := HF.see 7 rfl; go_wp2_with fail; clear e7 HF; intro _ HF
    refine sl_move HF rfl rfl (.inl rfl) (by decide) rfl ?_; clear HF; intro _ HF
    refine sl_op0 HF rfl rfl ?_; intro K hK; have e4 := HF.see 4 rfl; have e187 := HF.see 187 rfl; go_wp2_with fail; clear e4 e187 HF; intro _ HF
    refine sl_move HF rfl rfl (.inr rfl) (by decide) rfl ?_; clear HF; intro _ HF
    refine sl_nil (wp_ret ?_)
    exact RetP.mk rfl (rtok_end (t := ⟨6, r.take n, 0⟩) HF rfl rfl H2.out (fun t' k' h => by rw [HX.out] at h; cases h; exact ⟨rfl, by omega⟩) (fun h => by rw [HX.out] at h; cases h))

theorem cand_eq {d : List UInt8} {m : Nat} (hm : m ≤ d.length) : candB d m = (decide (0 < nmKind (d.take m)) && wholeB d m) := by
  unfold candB
  rw [decide_eq_true hm, Bool.and_true]
theorem whole_end {d : List UInt8} : wholeB d d.length = true := by
  cases d with
  | nil => rfl
  | cons c r =>
    unfold wholeB
    simp only [List.getElem?_eq_none (Nat.le_refl _)]
    simp

set_option maxHeartbeats 6400000 in
set_option maxRecDepth 100000 in
theorem rtok_sym {l : List UInt8} {a : Nat} {w0 w : World} {ac : Act} {g4 g7 : Nat} {r : List UInt8}
    (HF : Sl 260 [(0, .string (str l)), (1, .int .i64 a), (4, .pointer (some ⟨g4, 0, none⟩)), (5, .int .i64 0), (6, .int .u8 35), (7, .pointer (some ⟨g7, 0, none⟩))] ac)
    (hl : l.length ≤ 5000) (hd : l.drop a = 35 :: r) (h : TW w0 w g4 g7 ⟨0, [], 0⟩ a) :
    (part [1, 1, 1, 1, 1, 1, 0, 1, 0] rtBody).wp Tryz.prog (RetP (bodyPost Tryz.prog Tryz.f16 (fun e w' => RTok l a w0 e w'))) ac w := by
  have hsz := str_size l
  have hr : l.drop (a + 1) = r := by rw [← List.drop_drop, hd]; rfl
  have hrl : r.length + a + 1 = l.length := by
    have h1 := congrArg List.length hd
    rw [List.length_drop] at h1
    simp at h1
    omega
  have HT := Lib.hid h
  have HEND := Lib.hid (fun ac (w : World) HF h => rtok_ytail (l := l) (a := a) (w0 := w0) (w := w) (ac := ac) (g4 := g4) (g7 := g7) (r := r) HF hl hr hd h)
  have HR := Lib.hid hr
  clear h hd hr
  conv => arg 2; whnf
  refine wp_seq (wp_region_lit ?_)
  refine sl_const HF rfl rfl (.inr rfl) (by decide) ?_; clear HF; intro _ HF
  refine sl_nil (wp_seq (wp_seq (wp_region_lit ?_)))
  refine sl_move HF rfl rfl (.inl rfl) (by decide) rfl ?_; clear HF; intro _ HF
  refine sl_op HF rfl rfl (by decide) ?_; intro K hK; have e142 := HF.see 142 rfl; go_wp2_with fail; clear e142 HF; intro _ HF
  refine sl_move HF rfl rfl (.inr rfl) (by decide) rfl ?_; clear HF; intro _ HF
  refine sl_nil (wp_block (wp_loop (SyI w0 l a g4 g7) (fun ac _ => l.length + 1 - (intOf (ac.eval (.tmp 13))).toNat) ?_ ?_))
  · refine ⟨0, ?_, HT.out, by omega⟩
    have := HF.keep [0, 1, 4, 5, 7, 12, 13]
    rw [show ((a + 2 + 0 : Nat) : Int) = (a : Int) + 2 by omega]
    exact this
  · clear HF HT
    rintro ac2 w2 ⟨m, HF, hT, hm⟩
    have hmu : l.length + 1 - (intOf ((ac2.tmps[13]?).getD undef)).toNat = l.length + 1 - (a + 2 + m) := by rw [HF.see 13 rfl]; simp [intOf] <;> omega
    have HMU := Lib.hid hmu
    have HT := Lib.hid hT
    rw [HR.out] at HF
    clear hmu hT
    have hbx := bestV_ge a (symTo r m)
    have hsl := symTo_le r m
    obtain ⟨x, hx⟩ : ∃ x, x = bestV a (symTo r m) := ⟨_, rfl⟩
    rw [← hx] at HF hbx
    have HXV := Lib.hid hx
    clear hx
    by_cases hlen : a + 2 + m ≤ l.length
    · have hle : decide ((a : Int) + 2 + m ≤ l.length) = true := by simp; omega
      by_cases h500 : m < 498
      · have hlt : decide ((a : Int) + 2 + m < (a : Int) + 500) = true := by simp; omega
        have he : (str l).extract (a + 1) (a + 2 + m) = str (r.take (m + 1)) := by rw [str_extract, show a + 2 + m - (a + 1) = m + 1 by omega, HR.out]
        have hz : ((a + 2 + m : Nat) : Int) = (a : Int) + 2 + m := by omega
        have HCE := Lib.hid (cand_eq (d := r) (m := m + 1) (by omega))
        have HST := Lib.hid (show symTo r (m + 1) = if candB r (m + 1) then m + 1 else symTo r m from rfl)
        have hnext : ∀ (b : Bool), candB r (m + 1) = b → bestV a (symTo r (m + 1)) = if b then ((a + 2 + m : Nat) : Int) else x := by
          intro b hb
          rw [HST.out, hb, HXV.out]
          cases b
          · rfl
          · simp only [if_true]
            unfold bestV
            rw [if_neg (by omega)]
            omega
        have HNEXT := Lib.hid hnext
        clear hnext
        refine wp_seq (wp_seq (wp_region_lit ?_))
        rw [hz] at HF
        refine sl_move HF rfl rfl (.inl rfl) (by decide) rfl ?_; clear HF; intro _ HF
        refine sl_move HF rfl rfl (.inl rfl) (by decide) rfl ?_; clear HF; intro _ HF
        refine sl_op HF rfl rfl (by decide) ?_; intro K hK; have e145 := HF.see 145 rfl; go_wp2_with fail; clear e145 HF; intro _ HF
        refine sl_op HF rfl rfl (by decide) ?_; intro K hK; have e144 := HF.see 144 rfl; have e146 := HF.see 146 rfl; go_wp2_with fail; clear e144 e146 HF; intro _ HF
        refine sl_move HF rfl rfl (.inl rfl) (by decide) rfl ?_; clear HF; intro _ HF
        refine sl_want HF rfl rfl rfl rfl (by decide) ?_; intro K hK; have e13 := HF.see 13 rfl; go_wp2_with fail; clear e13 HF; intro _ HF
        refine sl_want HF rfl rfl rfl rfl (by decide) ?_; intro K hK; have e1 := HF.see 1 rfl; go_wp2_with fail; clear e1 HF; intro _ HF
        refine sl_want HF rfl rfl rfl rfl (by decide) ?_; intro K hK; have e150 := HF.see 150 rfl; go_wp2_with fail; clear e150 HF; intro _ HF
        refine sl_want HF rfl rfl rfl rfl (by decide) ?_; intro K hK; have e149 := HF.see 149 rfl; have e151 := HF.see 151 rfl; go_wp2_with fail; clear e149 e151 HF; intro _ HF
        refine sl_op HF rfl rfl (by decide) ?_; intro K hK; have e148 := HF.see 148 rfl; have e152 := HF.see 152 rfl; go_wp2_with fail; clear e148 e152 HF; intro _ HF
        refine sl_nil (wp_cond_true (HF.at 153 rfl) (wp_skip (sl_then (wp_seq (wp_block (wp_seq (wp_region_lit ?_)))))))
        refine sl_move HF rfl rfl (.inl rfl) (by decide) rfl ?_; clear HF; intro _ HF
        refine sl_move HF rfl rfl (.inl rfl) (by decide) rfl ?_; clear HF; intro _ HF
        refine sl_op HF rfl rfl (by decide) ?_; intro K hK; have e157 := HF.see 157 rfl; go_wp2_with fail; clear e157 HF; intro _ HF
        refine sl_move HF rfl rfl (.inl rfl) (by decide) rfl ?_; clear HF; intro _ HF
        refine sl_op HF rfl rfl (by decide) ?_; intro K hK; have e156 := HF.see 156 rfl; have e158 := HF.see 158 rfl; have e159 := HF.see 159 rfl; go_wp2_with fail; clear e156 e158 e159 HF; intro _ HF
        refine sl_op HF rfl rfl (by decide) ?_; intro K hK; have e160 := HF.see 160 rfl; go_wp2_with fail
        refine (r6Kind_any (r.take (m + 1)) (by rw [List.length_take]; omega) _).mono ?_
        rintro e w3 ⟨rfl, hm3⟩
        have HT3 := Lib.hid (HT.out.keep hm3)
        clear hm3
        go_wp2_with fail; clear e160 HF; intro _ HF
        by_cases hk0 : nmKind (r.take (m + 1)) = 0
        · have hdk : decide (0 < (nmKind (r.take (m + 1)) : Int)) = false := by simp; omega
          have HC := Lib.hid (show candB r (m + 1) = false by rw [HCE.out, hk0]; rfl)
          clear hk0
          generalize (nmKind (r.take (m + 1)) : Int) = kk at hdk HF
          refine sl_op HF rfl rfl (by decide) ?_; intro K hK; have e161 := HF.see 161 rfl; go_wp2_with fail; clear e161 HF; intro _ HF
          refine sl_move HF rfl rfl (.inl rfl) (by decide) rfl ?_; clear HF; intro _ HF
          refine sl_skip HF rfl rfl rfl rfl (by decide) ?_; clear HF; intro _ HF
          refine sl_skip HF rfl rfl rfl rfl (by decide) ?_; clear HF; intro _ HF
          refine sl_skip HF rfl rfl rfl rfl (by decide) ?_; clear HF; intro _ HF
          refine sl_skip HF rfl rfl rfl rfl (by decide) ?_; clear HF; intro _ HF
          refine sl_skip HF rfl rfl rfl rfl (by decide) ?_; clear HF; intro _ HF
          refine sl_skip_u HF rfl rfl rfl rfl (by decide) ?_; clear HF; intro _ HF
          refine sl_skip_u HF rfl rfl rfl rfl (by decide) ?_; clear HF; intro _ HF
          refine sl_skip_u HF rfl rfl rfl rfl (by decide) ?_; clear HF; intro _ HF
          refine sl_skip_u HF rfl rfl rfl rfl (by decide) ?_; clear HF; intro _ HF
          refine sl_skip_u HF rfl rfl rfl rfl (by decide) ?_; clear HF; intro _ HF
          refine sl_skip HF rfl rfl rfl rfl (by decide) ?_; clear HF; intro _ HF
          refine sl_op HF rfl rfl (by decide) ?_; intro K hK; have e163 := HF.see 163 rfl; have e174 := HF.see 174 rfl; go_wp2_with fail; clear e163 e174 HF; intro _ HF
          have HF2 := HF.keep [0, 1, 4, 5, 7, 12, 13, 175]
          rw [← hz] at HF2
          refine sl_nil (rtok_ycond (b := false) (x := x) HF2 ?_)
          intro ac3 HF
          have HN := Lib.hid (HNEXT.out false HC.out)
          rw [← HN.out] at HF
          clear HF2
          refine sl_blk (wp_region_lit ?_)
          refine sl_move HF rfl rfl (.inl rfl) (by decide) rfl ?_; clear HF; intro _ HF
          refine sl_op HF rfl rfl (by decide) ?_; intro K hK; have e154 := HF.see 154 rfl; go_wp2_with fail; clear e154 HF; intro _ HF
          refine sl_move HF rfl rfl (.inr rfl) (by decide) rfl ?_; clear HF; intro _ HF
          refine wpList_nil ?_
          refine ⟨⟨m + 1, ?_, HT3.out, by omega⟩, ?_⟩
          · have := HF.keep [0, 1, 4, 5, 7, 12, 13]
            rw [HR.out, show ((a + 2 + (m + 1) : Nat) : Int) = ((a + 2 + m : Nat) : Int) + 1 by omega]
            exact this
          · have e9 := HF.see 13 rfl
            try simp only [Act.eval_tmp]
            rw [HMU.out, e9]
            simp only [intOf]
            omega
        · have hdk : decide (0 < (nmKind (r.take (m + 1)) : Int)) = true := by simp; omega
          have HKP := Lib.hid (show decide (0 < nmKind (r.take (m + 1))) = true by simp; omega)
          clear hk0
          generalize (nmKind (r.take (m + 1)) : Int) = kk at hdk HF
          by_cases hend : a + 2 + m = l.length
          · have heq : ((a : Int) + 2 + m == (l.length : Int)) = true := by simp; omega
            have HC := Lib.hid (show candB r (m + 1) = true by
              rw [HCE.out, HKP.out, show m + 1 = r.length by omega, whole_end]; rfl)
            clear hend
            refine sl_op HF rfl rfl (by decide) ?_; intro K hK; have e161 := HF.see 161 rfl; go_wp2_with fail; clear e161 HF; intro _ HF
            refine sl_move HF rfl rfl (.inl rfl) (by decide) rfl ?_; clear HF; intro _ HF
            refine sl_want HF rfl rfl rfl rfl (by decide) ?_; intro K hK; have e13 := HF.see 13 rfl; go_wp2_with fail; clear e13 HF; intro _ HF
            refine sl_want HF rfl rfl rfl rfl (by decide) ?_; intro K hK; have e0 := HF.see 0 rfl; go_wp2_with fail; clear e0 HF; intro _ HF
            refine sl_want HF rfl rfl rfl rfl (by decide) ?_; intro K hK; have e165 := HF.see 165 rfl; go_wp2_with fail; clear e165 HF; intro _ HF
            refine sl_want HF rfl rfl rfl rfl (by decide) ?_; intro K hK; have e164 := HF.see 164 rfl; have e166 := HF.see 166 rfl; go_wp2_with fail; clear e164 e166 HF; intro _ HF
            refine sl_want HF rfl rfl rfl rfl (by decide) ?_; intro K hK; have e167 := HF.see 167 rfl; go_wp2_with fail; clear e167 HF; intro _ HF
            refine sl_skip HF rfl rfl rfl rfl (by decide) ?_; clear HF; intro _ HF
            refine sl_skip HF rfl rfl rfl rfl (by decide) ?_; clear HF; intro _ HF
            refine sl_skip HF rfl rfl rfl rfl (by decide) ?_; clear HF; intro _ HF
            refine sl_skip HF rfl rfl rfl rfl (by decide) ?_; clear HF; intro _ HF
            refine sl_skip HF rfl rfl rfl rfl (by decide) ?_; clear HF; intro _ HF
            refine sl_want HF rfl rfl rfl rfl (by decide) ?_; intro K hK; have e168 := HF.see 168 rfl; have e173 := HF.see 173 rfl; go_wp2_with fail; clear e168 e173 HF; intro _ HF
            refine sl_op HF rfl rfl (by decide) ?_; intro K hK; have e163 := HF.see 163 rfl; have e174 := HF.see 174 rfl; go_wp2_with fail; clear e163 e174 HF; intro _ HF
            have HF2 := HF.keep [0, 1, 4, 5, 7, 12, 13, 175]
            rw [← hz] at HF2
            refine sl_nil (rtok_ycond (b := true) (x := x) HF2 ?_)
            intro ac3 HF
            have HN := Lib.hid (HNEXT.out true HC.out)
            rw [← HN.out] at HF
            clear HF2
            refine sl_blk (wp_region_lit ?_)
            refine sl_move HF rfl rfl (.inl rfl) (by decide) rfl ?_; clear HF; intro _ HF
            refine sl_op HF rfl rfl (by decide) ?_; intro K hK; have e154 := HF.see 154 rfl; go_wp2_with fail; clear e154 HF; intro _ HF
            refine sl_move HF rfl rfl (.inr rfl) (by decide) rfl ?_; clear HF; intro _ HF
            refine wpList_nil ?_
            refine ⟨⟨m + 1, ?_, HT3.out, by omega⟩, ?_⟩
            · have := HF.keep [0, 1, 4, 5, 7, 12, 13]
              rw [HR.out, show ((a + 2 + (m + 1) : Nat) : Int) = ((a + 2 + m : Nat) : Int) + 1 by omega]
              exact this
            · have e9 := HF.see 13 rfl
              try simp only [Act.eval_tmp]
              rw [HMU.out, e9]
              simp only [intOf]
              omega
          · have heq : ((a : Int) + 2 + m == (l.length : Int)) = false := by simp; omega
            have HC := Lib.hid (show candB r (m + 1) = wholeB r (m + 1) by rw [HCE.out, HKP.out, Bool.true_and])
            have HWH := Lib.hid (rWhole_any l (a + 1) (a + 2 + m) (by omega) (by omega) (by omega))
            rw [HR.out, show a + 2 + m - (a + 1) = m + 1 by omega, show ((a + 1 : Nat) : Int) = (a : Int) + 1 by omega, hz] at HWH
            obtain ⟨b, hb⟩ : ∃ b, b = wholeB r (m + 1) := ⟨_, rfl⟩
            rw [← hb] at HWH HC
            clear hend hb
            refine sl_op HF rfl rfl (by decide) ?_; intro K hK; have e161 := HF.see 161 rfl; go_wp2_with fail; clear e161 HF; intro _ HF
            refine sl_move HF rfl rfl (.inl rfl) (by decide) rfl ?_; clear HF; intro _ HF
            refine sl_want HF rfl rfl rfl rfl (by decide) ?_; intro K hK; have e13 := HF.see 13 rfl; go_wp2_with fail; clear e13 HF; intro _ HF
            refine sl_want HF rfl rfl rfl rfl (by decide) ?_; intro K hK; have e0 := HF.see 0 rfl; go_wp2_with fail; clear e0 HF; intro _ HF
            refine sl_want HF rfl rfl rfl rfl (by decide) ?_; intro K hK; have e165 := HF.see 165 rfl; go_wp2_with fail; clear e165 HF; intro _ HF
            refine sl_want HF rfl rfl rfl rfl (by decide) ?_; intro K hK; have e164 := HF.see 164 rfl; have e166 := HF.see 166 rfl; go_wp2_with fail; clear e164 e166 HF; intro _ HF
            refine sl_want HF rfl rfl rfl rfl (by decide) ?_; intro K hK; have e167 := HF.see 167 rfl; go_wp2_with fail; clear e167 HF; intro _ HF
            refine sl_want HF rfl rfl rfl rfl (by decide) ?_; intro K hK; have e0 := HF.see 0 rfl; go_wp2_with fail; clear e0 HF; intro _ HF
            refine sl_want HF rfl rfl rfl rfl (by decide) ?_; intro K hK; have e1 := HF.see 1 rfl; go_wp2_with fail; clear e1 HF; intro _ HF
            refine sl_want HF rfl rfl rfl rfl (by decide) ?_; intro K hK; have e170 := HF.see 170 rfl; go_wp2_with fail; clear e170 HF; intro _ HF
            refine sl_want HF rfl rfl rfl rfl (by decide) ?_; intro K hK; have e13 := HF.see 13 rfl; go_wp2_with fail; clear e13 HF; intro _ HF
            refine sl_want HF rfl rfl rfl rfl (by decide) ?_; intro K hK; have e169 := HF.see 169 rfl; have e171 := HF.see 171 rfl; have e172 := HF.see 172 rfl; go_wp2_with fail
            refine (HWH.out _).mono ?_
            rintro e w4 ⟨rfl, rfl⟩
            go_wp2_with fail; clear e169 e171 e172 HF; intro _ HF
            refine sl_want HF rfl rfl rfl rfl (by decide) ?_; intro K hK; have e168 := HF.see 168 rfl; have e173 := HF.see 173 rfl; go_wp2_with fail; clear e168 e173 HF; intro _ HF
            refine sl_op HF rfl rfl (by decide) ?_; intro K hK; have e163 := HF.see 163 rfl; have e174 := HF.see 174 rfl; go_wp2_with fail; clear e163 e174 HF; intro _ HF
            have HF2 := HF.keep [0, 1, 4, 5, 7, 12, 13, 175]
            rw [← hz] at HF2
            refine sl_nil (rtok_ycond (b := b) (x := x) HF2 ?_)
            intro ac3 HF
            have HN := Lib.hid (HNEXT.out b HC.out)
            rw [← HN.out] at HF
            clear HF2
            refine sl_blk (wp_region_lit ?_)
            refine sl_move HF rfl rfl (.inl rfl) (by decide) rfl ?_; clear HF; intro _ HF
            refine sl_op HF rfl rfl (by decide) ?_; intro K hK; have e154 := HF.see 154 rfl; go_wp2_with fail; clear e154 HF; intro _ HF
            refine sl_move HF rfl rfl (.inr rfl) (by decide) rfl ?_; clear HF; intro _ HF
            refine wpList_nil ?_
            refine ⟨⟨m + 1, ?_, HT3.out, by omega⟩, ?_⟩
            · have := HF.keep [0, 1, 4, 5, 7, 12, 13]
              rw [HR.out, show ((a + 2 + (m + 1) : Nat) : Int) = ((a + 2 + m : Nat) : Int) + 1 by omega]
              exact this
            · have e9 := HF.see 13 rfl
              try simp only [Act.eval_tmp]
              rw [HMU.out, e9]
              simp only [intOf]
              omega
      · have hlt : decide ((a : Int) + 2 + m < (a : Int) + 500) = false := by simp; omega
        have HE := Lib.hid (symTo_all (d := r) (n := m) (by omega))
        have hz : ((a + 2 + m : Nat) : Int) = (a : Int) + 2 + m := by omega
        refine wp_seq (wp_seq (wp_region_lit ?_))
        rw [hz] at HF
        refine sl_move HF rfl rfl (.inl rfl) (by decide) rfl ?_; clear HF; intro _ HF
        refine sl_move HF rfl rfl (.inl rfl) (by decide) rfl ?_; clear HF; intro _ HF
        refine sl_op HF rfl rfl (by decide) ?_; intro K hK; have e145 := HF.see 145 rfl; go_wp2_with fail; clear e145 HF; intro _ HF
        refine sl_op HF rfl rfl (by decide) ?_; intro K hK; have e144 := HF.see 144 rfl; have e146 := HF.see 146 rfl; go_wp2_with fail; clear e144 e146 HF; intro _ HF
        refine sl_move HF rfl rfl (.inl rfl) (by decide) rfl ?_; clear HF; intro _ HF
        refine sl_want HF rfl rfl rfl rfl (by decide) ?_; intro K hK; have e13 := HF.see 13 rfl; go_wp2_with fail; clear e13 HF; intro _ HF
        refine sl_want HF rfl rfl rfl rfl (by decide) ?_; intro K hK; have e1 := HF.see 1 rfl; go_wp2_with fail; clear e1 HF; intro _ HF
        refine sl_want HF rfl rfl rfl rfl (by decide) ?_; intro K hK; have e150 := HF.see 150 rfl; go_wp2_with fail; clear e150 HF; intro _ HF
        refine sl_want HF rfl rfl rfl rfl (by decide) ?_; intro K hK; have e149 := HF.see 149 rfl; have e151 := HF.see 151 rfl; go_wp2_with fail; clear e149 e151 HF; intro _ HF
        refine sl_op HF rfl rfl (by decide) ?_; intro K hK; have e148 := HF.see 148 rfl; have e152 := HF.see 152 rfl; go_wp2_with fail; clear e148 e152 HF; intro _ HF
        refine sl_nil (wp_cond_false (HF.at 153 rfl) (wp_exit ?_))
        dsimp only [Exit.then]
        refine sl_exit (sl_then ?_)
        have HF2 := HF.keep [0, 1, 4, 5, 7, 12]
        rw [HXV.out, ← HE.out] at HF2
        exact HEND.out _ _ HF2 HT.out
    · have hle : decide ((a : Int) + 2 + m ≤ l.length) = false := by simp; omega
      have HE := Lib.hid (symTo_all (d := r) (n := m) (by omega))
      have hz : ((a + 2 + m : Nat) : Int) = (a : Int) + 2 + m := by omega
      refine wp_seq (wp_seq (wp_region_lit ?_))
      rw [hz] at HF
      refine sl_move HF rfl rfl (.inl rfl) (by decide) rfl ?_; clear HF; intro _ HF
      refine sl_move HF rfl rfl (.inl rfl) (by decide) rfl ?_; clear HF; intro _ HF
      refine sl_op HF rfl rfl (by decide) ?_; intro K hK; have e145 := HF.see 145 rfl; go_wp2_with fail; clear e145 HF; intro _ HF
      refine sl_op HF rfl rfl (by decide) ?_; intro K hK; have e144 := HF.see 144 rfl; have e146 := HF.see 146 rfl; go_wp2_with fail; clear e144 e146 HF; intro _ HF
      refine sl_move HF rfl rfl (.inl rfl) (by decide) rfl ?_; clear HF; intro _ HF
      refine sl_skip HF rfl rfl rfl rfl (by decide) ?_; clear HF; intro _ HF
      refine sl_skip HF rfl rfl rfl rfl (by decide) ?_; clear HF; intro _ HF
      refine sl_skip HF rfl rfl rfl rfl (by decide) ?_; clear HF; intro _ HF
      refine sl_skip HF rfl rfl rfl rfl (by decide) ?_; clear HF; intro _ HF
      refine sl_op HF rfl rfl (by decide) ?_; intro K hK; have e148 := HF.see 148 rfl; have e152 := HF.see 152 rfl; go_wp2_with fail; clear e148 e152 HF; intro _ HF
      refine sl_nil (wp_cond_false (HF.at 153 rfl) (wp_exit ?_))
      dsimp only [Exit.then]
      refine sl_exit (sl_then ?_)
      have HF2 := HF.keep [0, 1, 4, 5, 7, 12]
      rw [HXV.out, ← HE.out] at HF2
      exact HEND.out _ _ HF2 HT.out
end Go.Proofs.YtpjpmlhnhcmacaaGreatDoor
