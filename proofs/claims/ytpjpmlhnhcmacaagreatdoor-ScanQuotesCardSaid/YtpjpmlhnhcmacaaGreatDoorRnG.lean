/- The document's Token, whole. -/
import Derived.Test.YtpjpmlhnhcmacaaGreatDoorRnF
namespace Go.Proofs.YtpjpmlhnhcmacaaGreatDoor
open Go.RowKit

theorem kind_nolet {c : UInt8} {r : List UInt8} (hc : letB c = false) : nmKind (c :: r) = if nmBin (c :: r) then 2 else 0 := by
  have h1 : nmLower (c :: r) = false := by
    rcases h : nmLower (c :: r) with _ | _
    · rfl
    · obtain ⟨c', r', e, hl⟩ := lower_head h
      injection e with e _
      rw [← e, hc] at hl
      cases hl
  have h2 : nmKw (c :: r) = false := by
    rcases h : nmKw (c :: r) with _ | _
    · rfl
    · obtain ⟨c', r', e, hl⟩ := kw_head h
      injection e with e _
      rw [← e, hc] at hl
      cases hl
  unfold nmKind
  rw [h1, h2]
  simp
theorem bin_one (c : UInt8) : nmBin [c] = binB c := by simp [nmBin]
theorem bin_two (c d : UInt8) : nmBin [c, d] = (binB c && binB d) := by simp [nmBin]

def markS : List (List UInt8) := markL.map fun c => [c]
theorem markS_contains (c : UInt8) : markS.contains [c] = markL.contains c := by
  simp [markS, markL]
theorem markS_rd (w : World) (t : TypeId) : Rd All (w.alloc (.cells (markS.map sv).toArray t)) (some ⟨w.heap.size, 0, none⟩) (markS.map sv) := by
  have := Rd.blk (Blk.new w t (markS.map sv).toArray)
  simpa using this

set_option maxHeartbeats 3200000 in
set_option maxRecDepth 100000 in
theorem rtok_btail {l : List UInt8} {a k : Nat} {w0 w : World} {ac : Act} {g4 g7 : Nat}
    (HF : Sl 260 [(0, .string (str l)), (1, .int .i64 a), (4, .pointer (some ⟨g4, 0, none⟩)), (5, .int .i64 0), (7, .pointer (some ⟨g7, 0, none⟩)), (14, .int .i64 ((a : Int) + k))] ac)
    (hl : l.length ≤ 5000) (hk : a + k ≤ l.length) (HX : Hid (tokL (l.drop a) = some (⟨3, (l.drop a).take k, 0⟩, k))) (HT : Hid (TW w0 w g4 g7 ⟨0, [], 0⟩ a)) :
    (part [1, 1, 1, 1, 1, 1, 1, 1, 1, 1, 1, 1] rtBody).wp Tryz.prog (RetP (bodyPost Tryz.prog Tryz.f16 (fun e w' => RTok l a w0 e w'))) ac w := by
  have hsz := str_size l
  have he : (str l).extract a (a + k) = str ((l.drop a).take k) := by rw [str_extract, Nat.add_sub_cancel_left]
  conv => arg 2; whnf
  refine wp_seq (wp_region_lit ?_)
  obtain ⟨f0, f1, f2, f3, q0, q1, q2⟩ := HT.out.facts
  refine sl_op HF rfl rfl (by decide) ?_; intro K hK; have e7 := HF.see 7 rfl; go_wp2_with fail; clear e7 HF; intro _ HF
  refine sl_op0 HF rfl rfl ?_; intro K hK; have e252 := HF.see 252 rfl; go_wp2_with fail; clear e252 HF; intro _ HF
  refine sl_nil (wp_seq (wp_region_lit ?_))
  have h1 := HT.out.set0 3
  clear f0 f1 f2 f3 q0 q1 q2
  generalize World.setCell w ⟨g7, 0, none⟩ (.int .i64 3) = w3 at h1 ⊢
  have H1 := Lib.hid h1
  obtain ⟨f0, f1, f2, f3, q0, q1, q2⟩ := h1.facts
  clear h1
  refine sl_move HF rfl rfl (.inl rfl) (by decide) rfl ?_; clear HF; intro _ HF
  refine sl_move HF rfl rfl (.inl rfl) (by decide) rfl ?_; clear HF; intro _ HF
  refine sl_move HF rfl rfl (.inl rfl) (by decide) rfl ?_; clear HF; intro _ HF
  refine sl_op HF rfl rfl (by decide) ?_; intro K hK; have e253 := HF.see 253 rfl; have e254 := HF.see 254 rfl; have e255 := HF.see 255 rfl; go_wp2_with fail; clear e253 e254 e255 HF; intro _ HF
  refine sl_op HF rfl rfl (by decide) ?_; intro K hK; have e7 := HF.see 7 rfl; go_wp2_with fail; clear e7 HF; intro _ HF
  refine sl_op0 HF rfl rfl ?_; intro K hK; have e257 := HF.see 257 rfl; have e256 := HF.see 256 rfl; go_wp2_with fail; clear e257 e256 HF; intro _ HF
  refine sl_nil (wp_seq (wp_region_lit ?_))
  have h1 := H1.out.set1 ((l.drop a).take k)
  clear f0 f1 f2 f3 q0 q1 q2
  generalize World.setCell w3 ⟨g7, 1, none⟩ (.string (str ((l.drop a).take k))) = w4 at h1 ⊢
  have H2 := Lib.hid h1
  obtain ⟨f0, f1, f2, f3, q0, q1, q2⟩ := h1.facts
  obtain ⟨k0, k1, k2, k3, m0, m1, m2, m3⟩ := h1.facts4
  clear h1
  refine sl_op HF rfl rfl (by decide) ?_; intro K hK; have e7 := HF.see 7 rfl; go_wp2_with fail; clear e7 HF; intro _ HF
  refine sl_move HF rfl rfl (.inl rfl) (by decide) rfl ?_; clear HF; intro _ HF
  refine sl_op0 HF rfl rfl ?_; intro K hK; have e4 := HF.see 4 rfl; have e258 := HF.see 258 rfl; go_wp2_with fail; clear e4 e258 HF; intro _ HF
  refine sl_move HF rfl rfl (.inr rfl) (by decide) rfl ?_; clear HF; intro _ HF
  refine sl_nil (wp_ret ?_)
  exact RetP.mk rfl (rtok_end (t := ⟨3, (l.drop a).take k, 0⟩) HF rfl rfl H2.out (fun t' k' h => by rw [HX.out] at h; cases h; exact ⟨rfl, by simp⟩) (fun h => by rw [HX.out] at h; cases h))

set_option maxHeartbeats 3200000 in
set_option maxRecDepth 100000 in
/-- A binary selector, or nothing. -/
theorem rtok_bin {l : List UInt8} {a : Nat} {w0 w : World} {ac : Act} {g4 g7 : Nat} {c : UInt8} {r : List UInt8}
    (HF : Sl 260 [(0, .string (str l)), (1, .int .i64 a), (4, .pointer (some ⟨g4, 0, none⟩)), (5, .int .i64 0), (7, .pointer (some ⟨g7, 0, none⟩))] ac)
    (hl : l.length ≤ 5000) (hd : l.drop a = c :: r) (hlet : letB c = false) (htok : tokL (l.drop a) = if runL binB (c :: r) = 0 then none else some (⟨3, (c :: r).take (min 2 (runL binB (c :: r))), 0⟩, min 2 (runL binB (c :: r))))
    (HT : Hid (TW w0 w g4 g7 ⟨0, [], 0⟩ a)) :
    (part [1, 1, 1, 1, 1, 1, 1, 1, 1] rtBody).wp Tryz.prog (RetP (bodyPost Tryz.prog Tryz.f16 (fun e w' => RTok l a w0 e w'))) ac w := by
  have hsz := str_size l
  have hrl : r.length + 1 + a = l.length := by
    have h1 := congrArg List.length hd
    rw [List.length_drop] at h1
    simp at h1
    omega
  have he1 : (str l).extract a (a + 1) = str [c] := by rw [str_extract, Nat.add_sub_cancel_left, hd]; rfl
  have HTOK := Lib.hid htok
  have HD := Lib.hid hd
  have HK1 := Lib.hid (show nmKind [c] = if binB c then 2 else 0 by rw [kind_nolet hlet, bin_one])
  have HK2 := Lib.hid (fun d => show nmKind [c, d] = if binB c && binB d then 2 else 0 by rw [kind_nolet hlet, bin_two])
  have HRUN := Lib.hid (show runL binB (c :: r) = if binB c then runL binB r + 1 else 0 from rfl)
  have HKC := Lib.hid (r6Kind_any [c] (by simp) w)
  rw [HK1.out] at HKC
  clear htok hd hlet HK1
  conv => arg 2; whnf
  refine wp_seq (wp_seq (wp_region_lit ?_))
  refine sl_move HF rfl rfl (.inl rfl) (by decide) rfl ?_; clear HF; intro _ HF
  refine sl_move HF rfl rfl (.inl rfl) (by decide) rfl ?_; clear HF; intro _ HF
  refine sl_move HF rfl rfl (.inl rfl) (by decide) rfl ?_; clear HF; intro _ HF
  refine sl_op HF rfl rfl (by decide) ?_; intro K hK; have e229 := HF.see 229 rfl; go_wp2_with fail; clear e229 HF; intro _ HF
  refine sl_op HF rfl rfl (by decide) ?_; intro K hK; have e227 := HF.see 227 rfl; have e228 := HF.see 228 rfl; have e230 := HF.see 230 rfl; go_wp2_with fail; clear e227 e228 e230 HF; intro _ HF
  refine sl_op HF rfl rfl (by decide) ?_; intro K hK; have e231 := HF.see 231 rfl; go_wp2_with fail
  refine HKC.out.mono ?_
  rintro e w3 ⟨rfl, hm3⟩
  have HT3 := Lib.hid (HT.out.keep hm3)
  clear hm3
  rcases hb : binB c with _ | _
  · have HX := Lib.hid (show tokL (l.drop a) = none by rw [HTOK.out, HRUN.out, hb]; rfl)
    clear hb
    simp only [Bool.false_eq_true, if_false]
    go_wp2_with fail; clear e231 HF; intro _ HF
    refine sl_op HF rfl rfl (by decide) ?_; intro K hK; have e232 := HF.see 232 rfl; go_wp2_with fail; clear e232 HF; intro _ HF
    refine sl_nil (wp_cond_true (HF.at 233 rfl) (wp_seq (wp_region_lit ?_)))
    obtain ⟨f0, f1, f2, f3, _, _, _⟩ := HT3.out.facts
    obtain ⟨k0, k1, k2, k3, m0, m1, m2, m3⟩ := HT3.out.facts4
    refine sl_op HF rfl rfl (by decide) ?_; intro K hK; have e7 := HF.see 7 rfl; go_wp2_with fail; clear e7 HF; intro _ HF
    refine sl_op0 HF rfl rfl ?_; intro K hK; have e4 := HF.see 4 rfl; have e234 := HF.see 234 rfl; go_wp2_with fail; clear e4 e234 HF; intro _ HF
    refine sl_const HF rfl rfl (.inr rfl) (by decide) ?_; clear HF; intro _ HF
    refine sl_nil (wp_ret ?_)
    try dsimp only [Exit.then]
    exact RetP.mk rfl (rtok_end (t := ⟨0, [], 0⟩) HF rfl rfl HT3.out (fun t' k h => by rw [HX.out] at h; cases h) (fun _ => rfl))
  · have HTOK2 := Lib.hid (show tokL (l.drop a) = some (⟨3, (l.drop a).take (min 2 (runL binB r + 1)), 0⟩, min 2 (runL binB r + 1)) by
      rw [HTOK.out, HRUN.out, hb, HD.out]; simp)
    have HBC := Lib.hid hb
    clear hb
    simp only [if_true]
    go_wp2_with fail; clear e231 HF; intro _ HF
    refine sl_op HF rfl rfl (by decide) ?_; intro K hK; have e232 := HF.see 232 rfl; go_wp2_with fail; clear e232 HF; intro _ HF
    refine sl_nil (wp_cond_false (HF.at 233 rfl) (wp_skip (sl_then (wp_seq (wp_region_lit ?_)))))
    refine sl_move HF rfl rfl (.inl rfl) (by decide) rfl ?_; clear HF; intro _ HF
    refine sl_op HF rfl rfl (by decide) ?_; intro K hK; have e235 := HF.see 235 rfl; go_wp2_with fail; clear e235 HF; intro _ HF
    refine sl_move HF rfl rfl (.inr rfl) (by decide) rfl ?_; clear HF; intro _ HF
    refine sl_nil (wp_seq (wp_seq (wp_region_lit ?_)))
    cases r with
    | nil =>
      have HX := Lib.hid (show tokL (l.drop a) = some (⟨3, (l.drop a).take 1, 0⟩, 1) from HTOK2.out)
      have hge : decide ((a : Int) + 1 < l.length) = false := by simp at hrl ⊢; omega
      refine sl_move HF rfl rfl (.inl rfl) (by decide) rfl ?_; clear HF; intro _ HF
      refine sl_move HF rfl rfl (.inl rfl) (by decide) rfl ?_; clear HF; intro _ HF
      refine sl_op HF rfl rfl (by decide) ?_; intro K hK; have e238 := HF.see 238 rfl; go_wp2_with fail; clear e238 HF; intro _ HF
      refine sl_op HF rfl rfl (by decide) ?_; intro K hK; have e237 := HF.see 237 rfl; have e239 := HF.see 239 rfl; go_wp2_with fail; clear e237 e239 HF; intro _ HF
      refine sl_move HF rfl rfl (.inl rfl) (by decide) rfl ?_; clear HF; intro _ HF
      refine sl_skip HF rfl rfl rfl rfl (by decide) ?_; clear HF; intro _ HF
      refine sl_skip HF rfl rfl rfl rfl (by decide) ?_; clear HF; intro _ HF
      refine sl_skip HF rfl rfl rfl rfl (by decide) ?_; clear HF; intro _ HF
      refine sl_skip HF rfl rfl rfl rfl (by decide) ?_; clear HF; intro _ HF
      refine sl_skip HF rfl rfl rfl rfl (by decide) ?_; clear HF; intro _ HF
      refine sl_skip HF rfl rfl rfl rfl (by decide) ?_; clear HF; intro _ HF
      refine sl_skip HF rfl rfl rfl rfl (by decide) ?_; clear HF; intro _ HF
      refine sl_op HF rfl rfl (by decide) ?_; intro K hK; have e241 := HF.see 241 rfl; have e248 := HF.see 248 rfl; go_wp2_with fail; clear e241 e248 HF; intro _ HF
      refine sl_nil (wp_cond_false (HF.at 249 rfl) (wp_skip (sl_then ?_)))
      exact rtok_btail (k := 1) (HF.keep [0, 1, 4, 5, 7, 14]) hl (by simp at hrl; omega) HX HT3
    | cons d q =>
      rw [List.length_cons] at hrl
      have hlt : decide ((a : Int) + 1 < l.length) = true := by simp; omega
      have he2 : (str l).extract a (a + 2) = str [c, d] := by rw [str_extract, Nat.add_sub_cancel_left, HD.out]; rfl
      have HKD := Lib.hid (r6Kind_any [c, d] (by simp) w3)
      rw [HK2.out d, HBC.out, Bool.true_and] at HKD
      refine sl_move HF rfl rfl (.inl rfl) (by decide) rfl ?_; clear HF; intro _ HF
      refine sl_move HF rfl rfl (.inl rfl) (by decide) rfl ?_; clear HF; intro _ HF
      refine sl_op HF rfl rfl (by decide) ?_; intro K hK; have e238 := HF.see 238 rfl; go_wp2_with fail; clear e238 HF; intro _ HF
      refine sl_op HF rfl rfl (by decide) ?_; intro K hK; have e237 := HF.see 237 rfl; have e239 := HF.see 239 rfl; go_wp2_with fail; clear e237 e239 HF; intro _ HF
      refine sl_move HF rfl rfl (.inl rfl) (by decide) rfl ?_; clear HF; intro _ HF
      refine sl_want HF rfl rfl rfl rfl (by decide) ?_; intro K hK; have e0 := HF.see 0 rfl; go_wp2_with fail; clear e0 HF; intro _ HF
      refine sl_want HF rfl rfl rfl rfl (by decide) ?_; intro K hK; have e1 := HF.see 1 rfl; go_wp2_with fail; clear e1 HF; intro _ HF
      refine sl_want HF rfl rfl rfl rfl (by decide) ?_; intro K hK; have e1 := HF.see 1 rfl; go_wp2_with fail; clear e1 HF; intro _ HF
      refine sl_want HF rfl rfl rfl rfl (by decide) ?_; intro K hK; have e244 := HF.see 244 rfl; go_wp2_with fail; clear e244 HF; intro _ HF
      refine sl_want HF rfl rfl rfl rfl (by decide) ?_; intro K hK; have e242 := HF.see 242 rfl; have e243 := HF.see 243 rfl; have e245 := HF.see 245 rfl; go_wp2_with fail; clear e242 e243 e245 HF; intro _ HF
      refine sl_want HF rfl rfl rfl rfl (by decide) ?_; intro K hK; have e246 := HF.see 246 rfl; go_wp2_with fail
      refine HKD.out.mono ?_
      rintro e w4 ⟨rfl, hm4⟩
      have HT4 := Lib.hid (HT3.out.keep hm4)
      clear hm4
      rcases hb : binB d with _ | _
      · have HX := Lib.hid (show tokL (l.drop a) = some (⟨3, (l.drop a).take 1, 0⟩, 1) by rw [HTOK2.out, runL, hb]; rfl)
        clear hb
        simp only [Bool.false_eq_true, if_false]
        go_wp2_with fail; clear e246 HF; intro _ HF
        refine sl_want HF rfl rfl rfl rfl (by decide) ?_; intro K hK; have e247 := HF.see 247 rfl; go_wp2_with fail; clear e247 HF; intro _ HF
        refine sl_op HF rfl rfl (by decide) ?_; intro K hK; have e241 := HF.see 241 rfl; have e248 := HF.see 248 rfl; go_wp2_with fail; clear e241 e248 HF; intro _ HF
        refine sl_nil (wp_cond_false (HF.at 249 rfl) (wp_skip (sl_then ?_)))
        exact rtok_btail (k := 1) (HF.keep [0, 1, 4, 5, 7, 14]) hl (by omega) HX HT4
      · have HX := Lib.hid (show tokL (l.drop a) = some (⟨3, (l.drop a).take 2, 0⟩, 2) by
          rw [HTOK2.out, runL, hb, if_pos rfl, Nat.min_eq_left (by omega)])
        clear hb
        simp only [if_true]
        go_wp2_with fail; clear e246 HF; intro _ HF
        refine sl_want HF rfl rfl rfl rfl (by decide) ?_; intro K hK; have e247 := HF.see 247 rfl; go_wp2_with fail; clear e247 HF; intro _ HF
        refine sl_op HF rfl rfl (by decide) ?_; intro K hK; have e241 := HF.see 241 rfl; have e248 := HF.see 248 rfl; go_wp2_with fail; clear e241 e248 HF; intro _ HF
        refine sl_nil (wp_cond_true (HF.at 249 rfl) (wp_region_lit ?_))
        refine sl_move HF rfl rfl (.inl rfl) (by decide) rfl ?_; clear HF; intro _ HF
        refine sl_op HF rfl rfl (by decide) ?_; intro K hK; have e250 := HF.see 250 rfl; go_wp2_with fail; clear e250 HF; intro _ HF
        refine sl_move HF rfl rfl (.inr rfl) (by decide) rfl ?_; clear HF; intro _ HF
        refine wpList_nil (sl_then ?_)
        exact rtok_btail (k := 2) (by have := HF.keep [0, 1, 4, 5, 7, 14]; rw [show (a : Int) + 1 + 1 = (a : Int) + ((2 : Nat) : Int) by omega] at this; exact this) hl (by omega) HX HT4

set_option maxHeartbeats 3200000 in
set_option maxRecDepth 100000 in
/-- A mark, or a binary selector. -/
theorem rtok_mark {l : List UInt8} {a : Nat} {w0 w : World} {ac : Act} {g4 g7 : Nat} {c : UInt8} {r : List UInt8}
    (HF : Sl 260 [(0, .string (str l)), (1, .int .i64 a), (4, .pointer (some ⟨g4, 0, none⟩)), (5, .int .i64 0), (7, .pointer (some ⟨g7, 0, none⟩))] ac)
    (hl : l.length ≤ 5000) (hd : l.drop a = c :: r) (hlet : letB c = false) (htok : tokL (l.drop a) = if markL.contains c then some (⟨7, [c], 0⟩, 1) else if runL binB (c :: r) = 0 then none else some (⟨3, (c :: r).take (min 2 (runL binB (c :: r))), 0⟩, min 2 (runL binB (c :: r))))
    (HT : Hid (TW w0 w g4 g7 ⟨0, [], 0⟩ a)) :
    (part [1, 1, 1, 1, 1, 1, 1, 1] rtBody).wp Tryz.prog (RetP (bodyPost Tryz.prog Tryz.f16 (fun e w' => RTok l a w0 e w'))) ac w := by
  have hsz := str_size l
  have hrl : r.length + 1 + a = l.length := by
    have h1 := congrArg List.length hd
    rw [List.length_drop] at h1
    simp at h1
    omega
  have he1 : (str l).extract a (a + 1) = str [c] := by rw [str_extract, Nat.add_sub_cancel_left, hd]; rfl
  have HTOK := Lib.hid htok
  have HIN := Lib.hid (r6In_any (some ⟨w.heap.size, 0, none⟩) 10 10 markS [c] (w.alloc (.cells (markS.map sv).toArray 9)) rfl (by omega) (markS_rd w _))
  rw [markS_contains] at HIN
  have HREST := Lib.hid (fun ac (w : World) HF h (HT : Hid (TW w0 w g4 g7 ⟨0, [], 0⟩ a)) => rtok_bin (l := l) (a := a) (w0 := w0) (w := w) (ac := ac) (g4 := g4) (g7 := g7) (c := c) (r := r) HF hl hd hlet h HT)
  have HT1 := Lib.hid (HT.out.keep ((Mod.refl Nil w).alloc (.cells (markS.map sv).toArray 9)))
  clear htok hd hlet
  conv => arg 2; whnf
  refine wp_seq (wp_seq (wp_region_lit ?_))
  refine sl_op HF rfl rfl (by decide) ?_; intro K hK; go_wp2_with fail; clear HF; intro _ HF
  refine sl_move HF rfl rfl (.inl rfl) (by decide) rfl ?_; clear HF; intro _ HF
  refine sl_move HF rfl rfl (.inl rfl) (by decide) rfl ?_; clear HF; intro _ HF
  refine sl_move HF rfl rfl (.inl rfl) (by decide) rfl ?_; clear HF; intro _ HF
  refine sl_op HF rfl rfl (by decide) ?_; intro K hK; have e213 := HF.see 213 rfl; go_wp2_with fail; clear e213 HF; intro _ HF
  refine sl_op HF rfl rfl (by decide) ?_; intro K hK; have e211 := HF.see 211 rfl; have e212 := HF.see 212 rfl; have e214 := HF.see 214 rfl; go_wp2_with fail; clear e211 e212 e214 HF; intro _ HF
  refine sl_op HF rfl rfl (by decide) ?_; intro K hK; have e210 := HF.see 210 rfl; have e215 := HF.see 215 rfl; go_wp2_with fail
  refine HIN.out.mono ?_
  rintro e w3 ⟨rfl, rfl⟩
  rcases hm : markL.contains c with _ | _
  · have HX := Lib.hid (show tokL (l.drop a) = if runL binB (c :: r) = 0 then none else some (⟨3, (c :: r).take (min 2 (runL binB (c :: r))), 0⟩, min 2 (runL binB (c :: r))) by rw [HTOK.out, hm]; rfl)
    clear hm
    go_wp2_with fail; clear e210 e215 HF; intro _ HF
    refine sl_nil (wp_cond_false (HF.at 216 rfl) (wp_skip (sl_then ?_)))
    exact HREST.out _ _ (HF.keep [0, 1, 4, 5, 7]) HX.out HT1
  · have HX := Lib.hid (show tokL (l.drop a) = some (⟨7, [c], 0⟩, 1) by rw [HTOK.out, hm]; rfl)
    clear hm
    go_wp2_with fail; clear e210 e215 HF; intro _ HF
    refine sl_nil (wp_cond_true (HF.at 216 rfl) (wp_seq (wp_region_lit ?_)))
    generalize w.alloc (.cells (markS.map sv).toArray 9) = w2 at HT1 ⊢
    obtain ⟨f0, f1, f2, f3, q0, q1, q2⟩ := HT1.out.facts
    refine sl_op HF rfl rfl (by decide) ?_; intro K hK; have e7 := HF.see 7 rfl; go_wp2_with fail; clear e7 HF; intro _ HF
    refine sl_op0 HF rfl rfl ?_; intro K hK; have e217 := HF.see 217 rfl; go_wp2_with fail; clear e217 HF; intro _ HF
    refine sl_nil (wp_seq (wp_region_lit ?_))
    have h1 := HT1.out.set0 7
    clear f0 f1 f2 f3 q0 q1 q2
    generalize World.setCell w2 ⟨g7, 0, none⟩ (.int .i64 7) = w3 at h1 ⊢
    have H1 := Lib.hid h1
    obtain ⟨f0, f1, f2, f3, q0, q1, q2⟩ := h1.facts
    clear h1
    refine sl_move HF rfl rfl (.inl rfl) (by decide) rfl ?_; clear HF; intro _ HF
    refine sl_move HF rfl rfl (.inl rfl) (by decide) rfl ?_; clear HF; intro _ HF
    refine sl_move HF rfl rfl (.inl rfl) (by decide) rfl ?_; clear HF; intro _ HF
    refine sl_op HF rfl rfl (by decide) ?_; intro K hK; have e220 := HF.see 220 rfl; go_wp2_with fail; clear e220 HF; intro _ HF
    refine sl_op HF rfl rfl (by decide) ?_; intro K hK; have e218 := HF.see 218 rfl; have e219 := HF.see 219 rfl; have e221 := HF.see 221 rfl; go_wp2_with fail; clear e218 e219 e221 HF; intro _ HF
    refine sl_op HF rfl rfl (by decide) ?_; intro K hK; have e7 := HF.see 7 rfl; go_wp2_with fail; clear e7 HF; intro _ HF
    refine sl_op0 HF rfl rfl ?_; intro K hK; have e223 := HF.see 223 rfl; have e222 := HF.see 222 rfl; go_wp2_with fail; clear e223 e222 HF; intro _ HF
    refine sl_nil (wp_seq (wp_region_lit ?_))
    have h1 := H1.out.set1 [c]
    clear f0 f1 f2 f3 q0 q1 q2
    generalize World.setCell w3 ⟨g7, 1, none⟩ (.string (str [c])) = w4 at h1 ⊢
    have H2 := Lib.hid h1
    obtain ⟨f0, f1, f2, f3, q0, q1, q2⟩ := h1.facts
    obtain ⟨k0, k1, k2, k3, m0, m1, m2, m3⟩ := h1.facts4
    clear h1
    refine sl_op HF rfl rfl (by decide) ?_; intro K hK; have e7 := HF.see 7 rfl; go_wp2_with fail; clear e7 HF; intro _ HF
    refine sl_move HF rfl rfl (.inl rfl) (by decide) rfl ?_; clear HF; intro _ HF
    refine sl_op HF rfl rfl (by decide) ?_; intro K hK; have e225 := HF.see 225 rfl; go_wp2_with fail; clear e225 HF; intro _ HF
    refine sl_op0 HF rfl rfl ?_; intro K hK; have e4 := HF.see 4 rfl; have e224 := HF.see 224 rfl; go_wp2_with fail; clear e4 e224 HF; intro _ HF
    refine sl_move HF rfl rfl (.inr rfl) (by decide) rfl ?_; clear HF; intro _ HF
    refine sl_nil (wp_ret ?_)
    try dsimp only [Exit.then]
    exact RetP.mk rfl (rtok_end (t := ⟨7, [c], 0⟩) HF rfl rfl H2.out (fun t' k' h => by rw [HX.out] at h; cases h; exact ⟨rfl, by simp⟩) (fun h => by rw [HX.out] at h; cases h))

set_option maxHeartbeats 3200000 in
set_option maxRecDepth 100000 in
/-- := , or what is left. -/
theorem rtok_assign {l : List UInt8} {a : Nat} {w0 w : World} {ac : Act} {g4 g7 : Nat} {c : UInt8} {r : List UInt8}
    (HF : Sl 260 [(0, .string (str l)), (1, .int .i64 a), (4, .pointer (some ⟨g4, 0, none⟩)), (5, .int .i64 0), (6, .int .u8 c.toNat), (7, .pointer (some ⟨g7, 0, none⟩))] ac)
    (hl : l.length ≤ 5000) (hd : l.drop a = c :: r) (hlet : letB c = false)
    (htok : tokL (l.drop a) = if c = 58 ∧ r[0]? = some 61 then some (⟨7, [58, 61], 0⟩, 2) else if markL.contains c then some (⟨7, [c], 0⟩, 1) else if runL binB (c :: r) = 0 then none else some (⟨3, (c :: r).take (min 2 (runL binB (c :: r))), 0⟩, min 2 (runL binB (c :: r))))
    (HT : Hid (TW w0 w g4 g7 ⟨0, [], 0⟩ a)) :
    (part [1, 1, 1, 1, 1, 1, 1] rtBody).wp Tryz.prog (RetP (bodyPost Tryz.prog Tryz.f16 (fun e w' => RTok l a w0 e w'))) ac w := by
  have hsz := str_size l
  have hrl : r.length + 1 + a = l.length := by
    have h1 := congrArg List.length hd
    rw [List.length_drop] at h1
    simp at h1
    omega
  have hgx : ∀ d, r[0]? = some d → l[a + 1]? = some d := fun d h => by
    rw [← List.getElem?_drop, hd]
    exact h
  have HGX := Lib.hid hgx
  have hu := u8_lt c
  have HTOK := Lib.hid htok
  have HREST := Lib.hid (fun ac HF h => rtok_mark (l := l) (a := a) (w0 := w0) (w := w) (ac := ac) (g4 := g4) (g7 := g7) (c := c) (r := r) HF hl hd hlet h HT)
  clear htok hd hlet hgx
  conv => arg 2; whnf
  by_cases h58 : c = 58
  · subst h58
    cases r with
    | nil =>
      have HX := Lib.hid (HTOK.out.trans (if_neg (by simp)))
      have hge : decide ((a : Int) + 1 < l.length) = false := by simp at hrl ⊢; omega
      refine wp_seq (wp_seq (wp_region_lit ?_))
      refine sl_move HF rfl rfl (.inl rfl) (by decide) rfl ?_; clear HF; intro _ HF
      refine sl_op HF rfl rfl (by decide) ?_; intro K hK; have e189 := HF.see 189 rfl; go_wp2_with fail; clear e189 HF; intro _ HF
      refine sl_move HF rfl rfl (.inl rfl) (by decide) rfl ?_; clear HF; intro _ HF
      refine sl_want HF rfl rfl rfl rfl (by decide) ?_; intro K hK; have e1 := HF.see 1 rfl; go_wp2_with fail; clear e1 HF; intro _ HF
      refine sl_want HF rfl rfl rfl rfl (by decide) ?_; intro K hK; have e192 := HF.see 192 rfl; go_wp2_with fail; clear e192 HF; intro _ HF
      refine sl_want HF rfl rfl rfl rfl (by decide) ?_; intro K hK; have e0 := HF.see 0 rfl; go_wp2_with fail; clear e0 HF; intro _ HF
      refine sl_want HF rfl rfl rfl rfl (by decide) ?_; intro K hK; have e194 := HF.see 194 rfl; go_wp2_with fail; clear e194 HF; intro _ HF
      refine sl_want HF rfl rfl rfl rfl (by decide) ?_; intro K hK; have e193 := HF.see 193 rfl; have e195 := HF.see 195 rfl; go_wp2_with fail; clear e193 e195 HF; intro _ HF
      refine sl_op HF rfl rfl (by decide) ?_; intro K hK; have e191 := HF.see 191 rfl; have e196 := HF.see 196 rfl; go_wp2_with fail; clear e191 e196 HF; intro _ HF
      refine sl_move HF rfl rfl (.inl rfl) (by decide) rfl ?_; clear HF; intro _ HF
      refine sl_skip HF rfl rfl rfl rfl (by decide) ?_; clear HF; intro _ HF
      refine sl_skip HF rfl rfl rfl rfl (by decide) ?_; clear HF; intro _ HF
      refine sl_skip HF rfl rfl rfl rfl (by decide) ?_; clear HF; intro _ HF
      refine sl_skip HF rfl rfl rfl rfl (by decide) ?_; clear HF; intro _ HF
      refine sl_skip HF rfl rfl rfl rfl (by decide) ?_; clear HF; intro _ HF
      refine sl_op HF rfl rfl (by decide) ?_; intro K hK; have e198 := HF.see 198 rfl; have e203 := HF.see 203 rfl; go_wp2_with fail; clear e198 e203 HF; intro _ HF
      refine sl_nil (wp_cond_false (HF.at 204 rfl) (wp_skip (sl_then ?_)))
      exact HREST.out _ (HF.keep [0, 1, 4, 5, 7]) HX.out
    | cons d q =>
      have hg := str_getE (HGX.out d rfl) (by simp at hrl; omega)
      have hud := u8_lt d
      rw [List.length_cons] at hrl
      have hlt : decide ((a : Int) + 1 < l.length) = true := by simp; omega
      by_cases h61 : d = 61
      · subst h61
        have HX := Lib.hid (HTOK.out.trans (if_pos ⟨rfl, rfl⟩))
        refine wp_seq (wp_seq (wp_region_lit ?_))
        refine sl_move HF rfl rfl (.inl rfl) (by decide) rfl ?_; clear HF; intro _ HF
        refine sl_op HF rfl rfl (by decide) ?_; intro K hK; have e189 := HF.see 189 rfl; go_wp2_with fail; clear e189 HF; intro _ HF
        refine sl_move HF rfl rfl (.inl rfl) (by decide) rfl ?_; clear HF; intro _ HF
        refine sl_want HF rfl rfl rfl rfl (by decide) ?_; intro K hK; have e1 := HF.see 1 rfl; go_wp2_with fail; clear e1 HF; intro _ HF
        refine sl_want HF rfl rfl rfl rfl (by decide) ?_; intro K hK; have e192 := HF.see 192 rfl; go_wp2_with fail; clear e192 HF; intro _ HF
        refine sl_want HF rfl rfl rfl rfl (by decide) ?_; intro K hK; have e0 := HF.see 0 rfl; go_wp2_with fail; clear e0 HF; intro _ HF
        refine sl_want HF rfl rfl rfl rfl (by decide) ?_; intro K hK; have e194 := HF.see 194 rfl; go_wp2_with fail; clear e194 HF; intro _ HF
        refine sl_want HF rfl rfl rfl rfl (by decide) ?_; intro K hK; have e193 := HF.see 193 rfl; have e195 := HF.see 195 rfl; go_wp2_with fail; clear e193 e195 HF; intro _ HF
        refine sl_op HF rfl rfl (by decide) ?_; intro K hK; have e191 := HF.see 191 rfl; have e196 := HF.see 196 rfl; go_wp2_with fail; clear e191 e196 HF; intro _ HF
        refine sl_move HF rfl rfl (.inl rfl) (by decide) rfl ?_; clear HF; intro _ HF
        refine sl_want HF rfl rfl rfl rfl (by decide) ?_; intro K hK; have e0 := HF.see 0 rfl; go_wp2_with fail; clear e0 HF; intro _ HF
        refine sl_want HF rfl rfl rfl rfl (by decide) ?_; intro K hK; have e1 := HF.see 1 rfl; go_wp2_with fail; clear e1 HF; intro _ HF
        refine sl_want HF rfl rfl rfl rfl (by decide) ?_; intro K hK; have e200 := HF.see 200 rfl; go_wp2_with fail; clear e200 HF; intro _ HF
        refine sl_want HF rfl rfl rfl rfl (by decide) ?_; intro K hK; have e199 := HF.see 199 rfl; have e201 := HF.see 201 rfl; go_wp2_with fail; clear e199 e201 HF; intro _ HF
        refine sl_want HF rfl rfl rfl rfl (by decide) ?_; intro K hK; have e202 := HF.see 202 rfl; go_wp2_with fail; clear e202 HF; intro _ HF
        refine sl_op HF rfl rfl (by decide) ?_; intro K hK; have e198 := HF.see 198 rfl; have e203 := HF.see 203 rfl; go_wp2_with fail; clear e198 e203 HF; intro _ HF
        refine sl_nil (wp_cond_true (HF.at 204 rfl) (wp_seq (wp_region_lit ?_)))
        obtain ⟨f0, f1, f2, f3, q0, q1, q2⟩ := HT.out.facts
        refine sl_op HF rfl rfl (by decide) ?_; intro K hK; have e7 := HF.see 7 rfl; go_wp2_with fail; clear e7 HF; intro _ HF
        refine sl_op0 HF rfl rfl ?_; intro K hK; have e205 := HF.see 205 rfl; go_wp2_with fail; clear e205 HF; intro _ HF
        refine sl_nil (wp_seq (wp_region_lit ?_))
        have h1 := HT.out.set0 7
        clear f0 f1 f2 f3 q0 q1 q2
        generalize World.setCell w ⟨g7, 0, none⟩ (.int .i64 7) = w3 at h1 ⊢
        have H1 := Lib.hid h1
        obtain ⟨f0, f1, f2, f3, q0, q1, q2⟩ := h1.facts
        clear h1
        refine sl_op HF rfl rfl (by decide) ?_; intro K hK; have e7 := HF.see 7 rfl; go_wp2_with fail; clear e7 HF; intro _ HF
        refine sl_op0 HF rfl rfl ?_; intro K hK; have e206 := HF.see 206 rfl; go_wp2_with fail; clear e206 HF; intro _ HF
        refine sl_nil (wp_seq (wp_region_lit ?_))
        have h1 := H1.out.set1 [58, 61]
        clear f0 f1 f2 f3 q0 q1 q2
        have hstr : (.string (str [58, 61]) : Value) = .string ⟨#[58, 61]⟩ := rfl
        rw [hstr] at h1
        clear hstr
        generalize World.setCell w3 ⟨g7, 1, none⟩ (.string ⟨#[58, 61]⟩) = w4 at h1 ⊢
        have H2 := Lib.hid h1
        obtain ⟨f0, f1, f2, f3, q0, q1, q2⟩ := h1.facts
        obtain ⟨k0, k1, k2, k3, m0, m1, m2, m3⟩ := h1.facts4
        clear h1
        refine sl_op HF rfl rfl (by decide) ?_; intro K hK; have e7 := HF.see 7 rfl; go_wp2_with fail; clear e7 HF; intro _ HF
        refine sl_move HF rfl rfl (.inl rfl) (by decide) rfl ?_; clear HF; intro _ HF
        refine sl_op HF rfl rfl (by decide) ?_; intro K hK; have e208 := HF.see 208 rfl; go_wp2_with fail; clear e208 HF; intro _ HF
        refine sl_op0 HF rfl rfl ?_; intro K hK; have e4 := HF.see 4 rfl; have e207 := HF.see 207 rfl; go_wp2_with fail; clear e4 e207 HF; intro _ HF
        refine sl_move HF rfl rfl (.inr rfl) (by decide) rfl ?_; clear HF; intro _ HF
        refine sl_nil (wp_ret ?_)
        try dsimp only [Exit.then]
        exact RetP.mk rfl (rtok_end (t := ⟨7, [58, 61], 0⟩) HF rfl rfl H2.out (fun t' k' h => by rw [HX.out] at h; cases h; exact ⟨rfl, by simp⟩) (fun h => by rw [HX.out] at h; cases h))
      · have hne2 : ((d.toNat : Int) == 61) = false := ne_of_u8 h61
        have HX := Lib.hid (HTOK.out.trans (if_neg (by simp [h61])))
        clear h61
        refine wp_seq (wp_seq (wp_region_lit ?_))
        refine sl_move HF rfl rfl (.inl rfl) (by decide) rfl ?_; clear HF; intro _ HF
        refine sl_op HF rfl rfl (by decide) ?_; intro K hK; have e189 := HF.see 189 rfl; go_wp2_with fail; clear e189 HF; intro _ HF
        refine sl_move HF rfl rfl (.inl rfl) (by decide) rfl ?_; clear HF; intro _ HF
        refine sl_want HF rfl rfl rfl rfl (by decide) ?_; intro K hK; have e1 := HF.see 1 rfl; go_wp2_with fail; clear e1 HF; intro _ HF
        refine sl_want HF rfl rfl rfl rfl (by decide) ?_; intro K hK; have e192 := HF.see 192 rfl; go_wp2_with fail; clear e192 HF; intro _ HF
        refine sl_want HF rfl rfl rfl rfl (by decide) ?_; intro K hK; have e0 := HF.see 0 rfl; go_wp2_with fail; clear e0 HF; intro _ HF
        refine sl_want HF rfl rfl rfl rfl (by decide) ?_; intro K hK; have e194 := HF.see 194 rfl; go_wp2_with fail; clear e194 HF; intro _ HF
        refine sl_want HF rfl rfl rfl rfl (by decide) ?_; intro K hK; have e193 := HF.see 193 rfl; have e195 := HF.see 195 rfl; go_wp2_with fail; clear e193 e195 HF; intro _ HF
        refine sl_op HF rfl rfl (by decide) ?_; intro K hK; have e191 := HF.see 191 rfl; have e196 := HF.see 196 rfl; go_wp2_with fail; clear e191 e196 HF; intro _ HF
        refine sl_move HF rfl rfl (.inl rfl) (by decide) rfl ?_; clear HF; intro _ HF
        refine sl_want HF rfl rfl rfl rfl (by decide) ?_; intro K hK; have e0 := HF.see 0 rfl; go_wp2_with fail; clear e0 HF; intro _ HF
        refine sl_want HF rfl rfl rfl rfl (by decide) ?_; intro K hK; have e1 := HF.see 1 rfl; go_wp2_with fail; clear e1 HF; intro _ HF
        refine sl_want HF rfl rfl rfl rfl (by decide) ?_; intro K hK; have e200 := HF.see 200 rfl; go_wp2_with fail; clear e200 HF; intro _ HF
        refine sl_want HF rfl rfl rfl rfl (by decide) ?_; intro K hK; have e199 := HF.see 199 rfl; have e201 := HF.see 201 rfl; go_wp2_with fail; clear e199 e201 HF; intro _ HF
        refine sl_want HF rfl rfl rfl rfl (by decide) ?_; intro K hK; have e202 := HF.see 202 rfl; go_wp2_with fail; clear e202 HF; intro _ HF
        refine sl_op HF rfl rfl (by decide) ?_; intro K hK; have e198 := HF.see 198 rfl; have e203 := HF.see 203 rfl; go_wp2_with fail; clear e198 e203 HF; intro _ HF
        refine sl_nil (wp_cond_false (HF.at 204 rfl) (wp_skip (sl_then ?_)))
        exact HREST.out _ (HF.keep [0, 1, 4, 5, 7]) HX.out
  · have hne2 : ((c.toNat : Int) == 58) = false := ne_of_u8 h58
    have HX := Lib.hid (HTOK.out.trans (if_neg (by simp [h58])))
    clear h58
    refine wp_seq (wp_seq (wp_region_lit ?_))
    refine sl_move HF rfl rfl (.inl rfl) (by decide) rfl ?_; clear HF; intro _ HF
    refine sl_op HF rfl rfl (by decide) ?_; intro K hK; have e189 := HF.see 189 rfl; go_wp2_with fail; clear e189 HF; intro _ HF
    refine sl_move HF rfl rfl (.inl rfl) (by decide) rfl ?_; clear HF; intro _ HF
    refine sl_skip HF rfl rfl rfl rfl (by decide) ?_; clear HF; intro _ HF
    refine sl_skip HF rfl rfl rfl rfl (by decide) ?_; clear HF; intro _ HF
    refine sl_skip HF rfl rfl rfl rfl (by decide) ?_; clear HF; intro _ HF
    refine sl_skip HF rfl rfl rfl rfl (by decide) ?_; clear HF; intro _ HF
    refine sl_skip HF rfl rfl rfl rfl (by decide) ?_; clear HF; intro _ HF
    refine sl_op HF rfl rfl (by decide) ?_; intro K hK; have e191 := HF.see 191 rfl; have e196 := HF.see 196 rfl; go_wp2_with fail; clear e191 e196 HF; intro _ HF
    refine sl_move HF rfl rfl (.inl rfl) (by decide) rfl ?_; clear HF; intro _ HF
    refine sl_skip HF rfl rfl rfl rfl (by decide) ?_; clear HF; intro _ HF
    refine sl_skip HF rfl rfl rfl rfl (by decide) ?_; clear HF; intro _ HF
    refine sl_skip HF rfl rfl rfl rfl (by decide) ?_; clear HF; intro _ HF
    refine sl_skip HF rfl rfl rfl rfl (by decide) ?_; clear HF; intro _ HF
    refine sl_skip HF rfl rfl rfl rfl (by decide) ?_; clear HF; intro _ HF
    refine sl_op HF rfl rfl (by decide) ?_; intro K hK; have e198 := HF.see 198 rfl; have e203 := HF.see 203 rfl; go_wp2_with fail; clear e198 e203 HF; intro _ HF
    refine sl_nil (wp_cond_false (HF.at 204 rfl) (wp_skip (sl_then ?_)))
    exact HREST.out _ (HF.keep [0, 1, 4, 5, 7]) HX.out

set_option maxHeartbeats 3200000 in
set_option maxRecDepth 100000 in
/-- Token, whole. -/
theorem rToken_any (l : List UInt8) (a : Nat) (hl : l.length ≤ 5000) (ha : a < l.length) (w : World) : Calls Tryz.prog 16 #[.string (str l), .int .i64 a] w fun e w' => RTok l a w e w' := by
  have hsz := str_size l
  obtain ⟨c, hc⟩ : ∃ c, l[a]? = some c := ⟨_, List.getElem?_eq_getElem ha⟩
  obtain ⟨r, hd⟩ : ∃ r, l.drop a = c :: r := ⟨_, by rw [List.drop_eq_getElem_cons ha, (List.getElem?_eq_some_iff.1 hc).2]⟩
  have hg := str_getE hc (by omega)
  have hu := u8_lt c
  have HC := Lib.hid hc
  have HD := Lib.hid hd
  have hT : TW w ((w.alloc (.cells tok0 32)).alloc (.cells (tokArr ⟨0, [], 0⟩ a) 32)) w.heap.size (w.heap.size + 1) ⟨0, [], 0⟩ a :=
    ⟨(Blk.new w _ _).alloc _, by have := Blk.new (w.alloc (.cells tok0 32)) 32 (tokArr ⟨0, [], 0⟩ a); simpa using this, by omega, Nat.le_refl _, by omega, ((Mod.refl _ _).alloc _).alloc _⟩
  have HT := Lib.hid hT
  clear hc hd hT
  refine sl_enter (n := 260) (fn := Tryz.f16) (c := rtBody) Tryz.func16 rfl rfl (by simp) fun ac HF => ?_
  conv => arg 2; whnf
  refine wp_seq (wp_region_lit ?_)
  refine sl_op HF rfl rfl (by decide) ?_; intro K hK; go_wp2_with fail; clear HF; intro _ HF
  refine sl_const HF rfl rfl (.inr rfl) (by decide) ?_; clear HF; intro _ HF
  refine sl_nil (wp_seq (wp_region_lit ?_))
  refine sl_move HF rfl rfl (.inl rfl) (by decide) rfl ?_; clear HF; intro _ HF
  refine sl_move HF rfl rfl (.inl rfl) (by decide) rfl ?_; clear HF; intro _ HF
  refine sl_op HF rfl rfl (by decide) ?_; intro K hK; have e15 := HF.see 15 rfl; have e16 := HF.see 16 rfl; go_wp2_with fail; clear e15 e16 HF; intro _ HF
  refine sl_move HF rfl rfl (.inr rfl) (by decide) rfl ?_; clear HF; intro _ HF
  refine sl_nil (wp_seq (wp_region_lit ?_))
  refine sl_move HF rfl rfl (.inl rfl) (by decide) rfl ?_; clear HF; intro _ HF
  refine sl_op HF rfl rfl (by decide) ?_; intro K hK; have e18 := HF.see 18 rfl; go_wp2_with fail; clear e18 HF; intro _ HF
  refine sl_op HF rfl rfl (by decide) ?_; intro K hK; go_wp2_with fail; clear HF; intro _ HF
  refine sl_op0 HF rfl rfl ?_; intro K hK; have e7 := HF.see 7 rfl; have e19 := HF.see 19 rfl; go_wp2_with fail; clear e7 e19 HF; intro _ HF
  have HF2 := HF.keep [0, 1, 4, 5, 6, 7]
  have hw : World.alloc (World.alloc w (.cells #[.int .i64 0, .string ⟨#[]⟩, .int .i64 0, .int .i64 0] 32)) (.cells #[.int .i64 0, .string ⟨#[]⟩, .int .i64 0, .int .i64 a] 32) = (w.alloc (.cells tok0 32)).alloc (.cells (tokArr ⟨0, [], 0⟩ a) 32) := rfl
  rw [hw]
  clear hw HF
  have HF := HF2
  clear HF2
  generalize (w.alloc (.cells tok0 32)).alloc (.cells (tokArr ⟨0, [], 0⟩ a) 32) = W at HT ⊢
  generalize w.heap.size + 1 = g7 at HT HF
  generalize w.heap.size = g4 at HT HF
  refine sl_nil (wp_seq (wp_seq (wp_region_lit ?_)))
  refine sl_move HF rfl rfl (.inl rfl) (by decide) rfl ?_; clear HF; intro _ HF
  refine sl_op HF rfl rfl (by decide) ?_; intro K hK; have e20 := HF.see 20 rfl; go_wp2_with fail
  refine (rLetter_any c _).mono ?_
  rintro e w3 ⟨rfl, rfl⟩
  rcases hlet : letB c with _ | _
  · have HLET := Lib.hid hlet
    clear hlet
    go_wp2_with fail; clear e20 HF; intro _ HF
    refine sl_nil (wp_cond_false (HF.at 21 rfl) (wp_skip (sl_then (wp_seq (wp_seq (wp_region_lit ?_))))))
    refine sl_move HF rfl rfl (.inl rfl) (by decide) rfl ?_; clear HF; intro _ HF
    refine sl_op HF rfl rfl (by decide) ?_; intro K hK; have e65 := HF.see 65 rfl; go_wp2_with fail
    refine (rDigit_any c _).mono ?_
    rintro e w4 ⟨rfl, rfl⟩
    rcases hdig : digB c with _ | _
    · have HDIG := Lib.hid hdig
      clear hdig
      have HTK := Lib.hid (show tokL (l.drop a) = if c = 39 then (txtL r).map fun x => (⟨5, x.1, 0⟩, x.2 + 1)
          else if c = 35 then
            if symL r = 0 then none else some (⟨6, r.take (symL r), 0⟩, symL r + 1)
          else if c = 58 ∧ r[0]? = some 61 then some (⟨7, [58, 61], 0⟩, 2)
          else if markL.contains c then some (⟨7, [c], 0⟩, 1)
          else if runL binB (c :: r) = 0 then none else some (⟨3, (c :: r).take (min 2 (runL binB (c :: r))), 0⟩, min 2 (runL binB (c :: r))) by
        rw [HD.out, tokL, HLET.out, HDIG.out]; rfl)
      go_wp2_with fail; clear e65 HF; intro _ HF
      refine sl_nil (wp_cond_false (HF.at 66 rfl) (wp_skip (sl_then (wp_seq (wp_seq (wp_region_lit ?_))))))
      by_cases h39 : c = 39
      · subst h39
        refine sl_move HF rfl rfl (.inl rfl) (by decide) rfl ?_; clear HF; intro _ HF
        refine sl_op HF rfl rfl (by decide) ?_; intro K hK; have e98 := HF.see 98 rfl; go_wp2_with fail; clear e98 HF; intro _ HF
        refine sl_nil (wp_cond_true (HF.at 99 rfl) (wp_ret_then ?_))
        exact rtok_text (HF.keep [0, 1, 4, 5, 6, 7]) hl HD.out HT.out HT.out.b4.lt HT.out.b7.lt
      · have hne2 : ((c.toNat : Int) == 39) = false := ne_of_u8 h39
        have HTK2 := Lib.hid (HTK.out.trans (if_neg h39))
        clear h39
        refine sl_move HF rfl rfl (.inl rfl) (by decide) rfl ?_; clear HF; intro _ HF
        refine sl_op HF rfl rfl (by decide) ?_; intro K hK; have e98 := HF.see 98 rfl; go_wp2_with fail; clear e98 HF; intro _ HF
        refine sl_nil (wp_cond_false (HF.at 99 rfl) (wp_skip (sl_then (wp_seq (wp_seq (wp_region_lit ?_))))))
        by_cases h35 : c = 35
        · subst h35
          refine sl_move HF rfl rfl (.inl rfl) (by decide) rfl ?_; clear HF; intro _ HF
          refine sl_op HF rfl rfl (by decide) ?_; intro K hK; have e140 := HF.see 140 rfl; go_wp2_with fail; clear e140 HF; intro _ HF
          refine sl_nil (wp_cond_true (HF.at 141 rfl) (wp_ret_then ?_))
          exact rtok_sym (HF.keep [0, 1, 4, 5, 6, 7]) hl HD.out HT.out
        · have hne3 : ((c.toNat : Int) == 35) = false := ne_of_u8 h35
          have HTK3 := Lib.hid (HTK2.out.trans (if_neg h35))
          clear h35
          refine sl_move HF rfl rfl (.inl rfl) (by decide) rfl ?_; clear HF; intro _ HF
          refine sl_op HF rfl rfl (by decide) ?_; intro K hK; have e140 := HF.see 140 rfl; go_wp2_with fail; clear e140 HF; intro _ HF
          refine sl_nil (wp_cond_false (HF.at 141 rfl) (wp_skip (sl_then ?_)))
          exact wp_ret_out (rtok_assign (HF.keep [0, 1, 4, 5, 6, 7]) hl HD.out HLET.out HTK3.out HT)
    · have HDIG := Lib.hid hdig
      clear hdig
      go_wp2_with fail; clear e65 HF; intro _ HF
      refine sl_nil (wp_cond_true (HF.at 66 rfl) (wp_ret_then ?_))
      exact rtok_digit (HF.keep [0, 1, 4, 5, 6, 7]) hl HC.out HLET.out HDIG.out HT.out
  · have HLET := Lib.hid hlet
    clear hlet
    go_wp2_with fail; clear e20 HF; intro _ HF
    refine sl_nil (wp_cond_true (HF.at 21 rfl) (wp_ret_then ?_))
    exact rtok_letter (HF.keep [0, 1, 4, 5, 6, 7]) hl HC.out HLET.out HT.out
end Go.Proofs.YtpjpmlhnhcmacaaGreatDoor
