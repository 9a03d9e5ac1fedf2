/- The law ScanQuotes, walked. -/
import Derived.Test.YtpjpmlhnhcmacaaGreatDoorScqP
import Derived.Test.YtpjpmlhnhcmacaaGreatDoorRnI
import Derived.Test.YtpjpmlhnhcmacaaGreatDoorShelf
import Derived.Test.YtpjpmlhnhcmacaaGreatDoorSclW
namespace Go.Proofs.YtpjpmlhnhcmacaaGreatDoor
open Go.RowKit

/-- The library's own variable holds some number. -/
def MaxIs (w : World) : Prop := ∃ m, w.cell? ⟨0, 0, none⟩ = some (.int .i64 m)
theorem MaxIs.keep {w w' : World} (h : MaxIs w) (hm : Mod Nil w w') : MaxIs w' := by
  obtain ⟨m, h⟩ := h
  exact ⟨m, (hm.cell (World.block_lt_of_cell? w _ h) id).trans h⟩

set_option maxHeartbeats 1600000 in
set_option maxRecDepth 100000 in
theorem scQuote_any (l : List UInt8) (hl : l.length ≤ 500) (w : World) (hx : MaxIs w) : Calls Tryz.prog 18 #[.string (str l)] w fun e w' => e = .returned (.string (str (quotedL l))) ∧ Mod Nil w w' := by
  have hsz := str_size l
  obtain ⟨m, hm⟩ := hx
  have hcl := Lib.countB_le ⟨#[39]⟩ (by decide) l.length (str l) (by omega)
  have hr := Tryz.strings_ReplaceAll (str l) ⟨#[39]⟩ ⟨#[39, 39]⟩ m w (by omega) hm (by decide) (by
    have : (⟨#[39, 39]⟩ : ByteArray).size = 2 := rfl
    rw [this]
    omega)
  have he : Lib.replaceAll (str l).data.toList (⟨#[39]⟩ : ByteArray).data.toList (⟨#[39, 39]⟩ : ByteArray).data.toList = quoteL l := quote_all l
  rw [he] at hr
  have HR := Lib.hid hr
  have hszq := str_size (quoteL l)
  have hql := quoteL_len l
  clear hr he hm
  go_enter Tryz.func18, Tryz.ntmps18
  go_wp2_with fail
  refine HR.out.mono ?_
  rintro e w2 ⟨rfl, hb⟩
  have HM := Lib.hid (Mod.of_below (F := Nil) hb)
  clear hb
  go_wp2_with fail
  go_ret
  refine ⟨?_, HM.out⟩
  show Ending.returned (.string (str [39] ++ str (quoteL l) ++ str [39])) = _
  rw [str_append, str_append]
  simp [quotedL]

noncomputable def rquBody : Code := (Tryz.f19.body).getD .skip

structure QuS (w0 : World) (l : List UInt8) (i : Nat) (A : Option Addr) (n c : Nat) (out : List UInt8) (w : World) : Prop where
  own : w.ownsRow w0.heap.size 5 1 (.slice A n c) n (out.map bv)
  len : out.length = n
  mod : Mod Nil w0 w

def QuI (w0 : World) (l : List UInt8) (ac : Act) (w : World) : Prop :=
  ∃ (i n : Nat) (A : Option Addr) (c : Nat), Sl 28 [(0, .string (str l)), (3, .slice A n c), (4, .int .i64 (i : Nat))] ac ∧ i ≤ l.length ∧ QuS w0 l i A n c (quoteL (l.take i)) w

theorem QuS.app {w0 w w' : World} {l : List UInt8} {i n c c' : Nat} {A A' : Option Addr} {out : List UInt8} {o : Obj} {x : UInt8} (h : QuS w0 l i A n c out w) (hd : Apd w0.heap.size 5 (.slice A n c) (n + 1) (out.map bv ++ [bv x]) A' c' (w.alloc o) w') : QuS w0 l i A' (n + 1) c' (out ++ [x]) w' :=
  ⟨by have := hd.own; simpa using this, by have := h.len; simp; omega, (h.mod.alloc o).trans' (H := Nil) hd.mod (fun _ _ h => h) (fun k hk hv => absurd (h.own.lt _ hv).1 (by omega))⟩

set_option maxHeartbeats 3200000 in
set_option maxRecDepth 100000 in
/-- One octet more. -/
theorem rqu_one {Q : Exit → Act → World → Prop} {l : List UInt8} {i n c : Nat} {out : List UInt8} {A : Option Addr} {w0 w : World} {ac : Act} {x : UInt8}
    (HF : Sl 28 [(0, .string (str l)), (3, .slice A n c), (4, .int .i64 (i : Nat))] ac) (HS : Hid (QuS w0 l i A n c out w)) (hn : n ≤ 5000) (hx : l[i]? = some x)
    (hQ : ∀ ac' A' c' w', Sl 28 [(0, .string (str l)), (3, .slice A' (n + 1) c'), (4, .int .i64 (i : Nat))] ac' → QuS w0 l i A' (n + 1) c' (out ++ [x]) w' → Q .normal ac' w') :
    (part [1, 1, 0, 1, 0, 0, 1, 0, 0, 1] rquBody).wp Tryz.prog Q ac w := by
  have HQ := Lib.hid hQ
  clear hQ
  have hsz := str_size l
  have hlt := (List.getElem?_eq_some_iff.1 hx).1
  have hg := str_getE hx (by omega)
  obtain ⟨i0, hi, hz0, hz1, hz2⟩ := info_parts u8_info
  have hu := u8_lt x
  have hws := HS.out.mod.size
  clear hx
  conv => arg 2; whnf
  refine wp_region_lit ?_
  refine sl_move HF rfl rfl (.inl rfl) (by decide) rfl ?_; clear HF; intro _ HF
  refine sl_move HF rfl rfl (.inl rfl) (by decide) rfl ?_; clear HF; intro _ HF
  refine sl_move HF rfl rfl (.inl rfl) (by decide) rfl ?_; clear HF; intro _ HF
  refine sl_op HF rfl rfl (by decide) ?_; intro K hK; have e19 := HF.see 19 rfl; have e20 := HF.see 20 rfl; go_wp2_with fail; clear e19 e20 HF; intro _ HF
  refine sl_op HF rfl rfl (by decide) ?_; intro K hK; have e21 := HF.see 21 rfl; go_wp2_with fail; clear e21 HF; intro _ HF
  refine sl_append1 HF rfl rfl (by decide) rfl Tryz.underlying48 hi hz0 hz1 hz2 rfl rfl (own_keep HS.out.own ((Mod.refl Nil w).alloc _) (fun _ _ => id)) rfl (news := [bv x]) rfl (Rd.blk (Blk.new w _ _)) (by intro u hu; obtain rfl := List.mem_singleton.1 hu; rfl) (by omega) (by simp only [maxLen]; omega) (by simp; omega) ?_
  intro A' c' w4 a4 HF hap
  have HAP := Lib.hid hap
  clear hap
  refine sl_move HF rfl rfl (.inr rfl) (by decide) rfl ?_; clear HF; intro _ HF
  refine wpList_nil ?_
  exact HQ.out _ _ _ _ (HF.keep [0, 3, 4]) (HS.out.app HAP.out)

set_option maxHeartbeats 3200000 in
set_option maxRecDepth 100000 in
theorem rQuote_any (l : List UInt8) (hl : l.length ≤ 500) (w : World) : Calls Tryz.prog 19 #[.string (str l)] w fun e w' => e = .returned (.string (str (quotedL l))) ∧ Mod Nil w w' := by
  have hsz := str_size l
  refine sl_enter (n := 28) (fn := Tryz.f19) (c := rquBody) Tryz.func19 rfl rfl (by simp) fun ac HF => ?_
  conv => arg 2; whnf
  refine wp_seq (wp_region_lit ?_)
  refine sl_const HF rfl rfl (.inr rfl) (by decide) ?_; clear HF; intro _ HF
  refine sl_nil (wp_seq (wp_region_lit ?_))
  refine sl_const HF rfl rfl (.inr rfl) (by decide) ?_; clear HF; intro _ HF
  refine sl_nil (wp_seq (wp_seq (wp_region_lit ?_)))
  refine sl_const HF rfl rfl (.inr rfl) (by decide) ?_; clear HF; intro _ HF
  refine sl_nil (wp_block (wp_loop (QuI w l) (fun ac _ => l.length - (intOf (ac.eval (.tmp 4))).toNat) ?_ ?_))
  · exact ⟨0, 0, none, 0, HF.keep [0, 3, 4], Nat.zero_le _, ⟨World.ownsRow_nil _ _ _ _, rfl, Mod.refl _ _⟩⟩
  · clear HF
    rintro ac2 w2 ⟨i, n, A, c, HF, hil, hst⟩
    have hmu : l.length - (intOf ((ac2.tmps[4]?).getD undef)).toNat = l.length - i := by rw [HF.see 4 rfl]; simp [intOf]
    have HMU := Lib.hid hmu
    have HST := Lib.hid hst
    have hn : n ≤ 1000 := by
      have h1 := quoteL_len (l.take i)
      have h2 := hst.len
      rw [List.length_take] at h1
      omega
    clear hmu hst
    by_cases hi : i < l.length
    · obtain ⟨x, hx⟩ : ∃ d, l[i]? = some d := ⟨_, List.getElem?_eq_getElem hi⟩
      have hg := str_getE hx (by omega)
      have HX := Lib.hid hx
      have hu := u8_lt x
      have hlt' : decide ((i : Int) < l.length) = true := by simp; omega
      have HNX := Lib.hid (show quoteL (l.take (i + 1)) = quoteL (l.take i) ++ (if x = 39 then [39, 39] else [x]) by rw [List.take_add_one, hx]; exact quoteL_snoc _ _)
      clear hx
      have hfin : ∀ (ac' : Act) (A' : Option Addr) (n' c' : Nat) (w' : World), Sl 28 [(0, .string (str l)), (3, .slice A' n' c'), (4, .int .i64 (i : Nat))] ac' → QuS w l i A' n' c' (quoteL (l.take (i + 1))) w' →
          (part [1, 1, 0, 1, 0, 0, 1, 1] rquBody).wp Tryz.prog (fun e a' w'' => e = .normal ∧ (QuI w l a' w'' ∧ l.length - (intOf (a'.eval (.tmp 4))).toNat < l.length - (intOf (ac2.eval (.tmp 4))).toNat)) ac' w' := by
        intro ac' A' n' c' w' HF hs
        have HS := Lib.hid hs
        clear hs hg hlt'
        conv => arg 2; whnf
        refine wp_region_lit ?_
        refine sl_move HF rfl rfl (.inl rfl) (by decide) rfl ?_; clear HF; intro _ HF
        refine sl_op HF rfl rfl (by decide) ?_; intro K hK; have e9 := HF.see 9 rfl; go_wp2_with fail; clear e9 HF; intro _ HF
        refine sl_move HF rfl rfl (.inr rfl) (by decide) rfl ?_; clear HF; intro _ HF
        refine wpList_nil ⟨rfl, ⟨i + 1, n', A', c', ?_, hi, ⟨HS.out.own, HS.out.len, HS.out.mod⟩⟩, ?_⟩
        · have := HF.keep [0, 3, 4]
          rw [show ((i + 1 : Nat) : Int) = (i : Int) + 1 by omega]
          exact this
        · have e9 := HF.see 4 rfl
          try simp only [Act.eval_tmp]
          rw [HMU.out, e9]
          simp only [intOf]
          omega
      have HFIN := Lib.hid hfin
      clear hfin
      refine wp_seq (wp_seq (wp_region_lit ?_))
      refine sl_move HF rfl rfl (.inl rfl) (by decide) rfl ?_; clear HF; intro _ HF
      refine sl_move HF rfl rfl (.inl rfl) (by decide) rfl ?_; clear HF; intro _ HF
      refine sl_op HF rfl rfl (by decide) ?_; intro K hK; have e6 := HF.see 6 rfl; go_wp2_with fail; clear e6 HF; intro _ HF
      refine sl_op HF rfl rfl (by decide) ?_; intro K hK; have e5 := HF.see 5 rfl; have e7 := HF.see 7 rfl; go_wp2_with fail; clear e5 e7 HF; intro _ HF
      refine sl_nil (wp_cond_true (HF.at 8 rfl) (wp_skip (sl_then (wp_seq (wp_block (wp_seq (wp_seq (wp_region_lit ?_))))))))
      by_cases h39 : x = 39
      · have e1 : ((x.toNat : Int) == 39) = true := u8_eq_true h39
        subst h39
        refine sl_move HF rfl rfl (.inl rfl) (by decide) rfl ?_; clear HF; intro _ HF
        refine sl_move HF rfl rfl (.inl rfl) (by decide) rfl ?_; clear HF; intro _ HF
        refine sl_op HF rfl rfl (by decide) ?_; intro K hK; have e11 := HF.see 11 rfl; have e12 := HF.see 12 rfl; go_wp2_with fail; clear e11 e12 HF; intro _ HF
        refine sl_op HF rfl rfl (by decide) ?_; intro K hK; have e13 := HF.see 13 rfl; go_wp2_with fail; clear e13 HF; intro _ HF
        refine sl_nil (wp_cond_true (HF.at 14 rfl) (wp_region_lit ?_))
        obtain ⟨i0, hi0, hz0, hz1, hz2⟩ := info_parts u8_info
        have hws := HST.out.mod.size
        refine sl_move HF rfl rfl (.inl rfl) (by decide) rfl ?_; clear HF; intro _ HF
        refine sl_op HF rfl rfl (by decide) ?_; intro K hK; go_wp2_with fail; clear HF; intro _ HF
        refine sl_append1 HF rfl rfl (by decide) rfl Tryz.underlying48 hi0 hz0 hz1 hz2 rfl rfl (own_keep HST.out.own ((Mod.refl Nil w2).alloc _) (fun _ _ => id)) rfl (news := [bv 39]) rfl (Rd.blk (Blk.new w2 _ _)) (by intro u hu; obtain rfl := List.mem_singleton.1 hu; rfl) (by omega) (by simp only [maxLen]; omega) (by simp; omega) ?_
        intro A' c' w4 a4 HF hap
        have HS4 := Lib.hid (HST.out.app hap)
        clear hap hi0 hz0 hz1 hz2
        refine sl_move HF rfl rfl (.inr rfl) (by decide) rfl ?_; clear HF; intro _ HF
        refine wpList_nil (sl_then ?_)
        refine rqu_one (HF.keep [0, 3, 4]) HS4 (by omega) HX.out (fun a5 A5 c5 w5 HF hs => ?_)
        refine sl_blk (Code.wp_mono ?_ (HFIN.out _ _ _ _ _ HF (by rw [HNX.out]; have := hs; rw [List.append_assoc] at this; simpa using this)))
        rintro e a6 w6 ⟨rfl, h⟩
        first | exact h | (dsimp only [Exit.then]; exact h) | (dsimp only [Exit.then]; simpa only [Act.eval_tmp] using h)
      · have e1 : ((x.toNat : Int) == 39) = false := ne_of_u8 h39
        have HNE := Lib.hid h39
        clear h39
        refine sl_move HF rfl rfl (.inl rfl) (by decide) rfl ?_; clear HF; intro _ HF
        refine sl_move HF rfl rfl (.inl rfl) (by decide) rfl ?_; clear HF; intro _ HF
        refine sl_op HF rfl rfl (by decide) ?_; intro K hK; have e11 := HF.see 11 rfl; have e12 := HF.see 12 rfl; go_wp2_with fail; clear e11 e12 HF; intro _ HF
        refine sl_op HF rfl rfl (by decide) ?_; intro K hK; have e13 := HF.see 13 rfl; go_wp2_with fail; clear e13 HF; intro _ HF
        refine sl_nil (wp_cond_false (HF.at 14 rfl) (wp_skip (sl_then ?_)))
        refine rqu_one (HF.keep [0, 3, 4]) HST (by omega) HX.out (fun a5 A5 c5 w5 HF hs => ?_)
        refine sl_blk (Code.wp_mono ?_ (HFIN.out _ _ _ _ _ HF (by rw [HNX.out, if_neg HNE.out]; exact hs)))
        rintro e a6 w6 ⟨rfl, h⟩
        first | exact h | (dsimp only [Exit.then]; exact h) | (dsimp only [Exit.then]; simpa only [Act.eval_tmp] using h)
    · have hge : decide ((i : Int) < l.length) = false := by simp; omega
      obtain rfl : i = l.length := by omega
      rw [List.take_length] at HST
      have hszq := str_size (quoteL l)
      have hql := quoteL_len l
      have hcv := conv_bytes (S := fun b => w.heap.size ≤ b) (w := w2) (A := A) (l := quoteL l) (n := n) (Rd.of_own HST.out.own) HST.out.len c
      refine wp_seq (wp_seq (wp_region_lit ?_))
      refine sl_move HF rfl rfl (.inl rfl) (by decide) rfl ?_; clear HF; intro _ HF
      refine sl_move HF rfl rfl (.inl rfl) (by decide) rfl ?_; clear HF; intro _ HF
      refine sl_op HF rfl rfl (by decide) ?_; intro K hK; have e6 := HF.see 6 rfl; go_wp2_with fail; clear e6 HF; intro _ HF
      refine sl_op HF rfl rfl (by decide) ?_; intro K hK; have e5 := HF.see 5 rfl; have e7 := HF.see 7 rfl; go_wp2_with fail; clear e5 e7 HF; intro _ HF
      refine sl_nil (wp_cond_false (HF.at 8 rfl) (wp_exit ?_))
      dsimp only [Exit.then]
      refine sl_exit (sl_then (wp_seq (wp_region_lit ?_)))
      refine sl_move HF rfl rfl (.inl rfl) (by decide) rfl ?_; clear HF; intro _ HF
      refine sl_op HF rfl rfl (by decide) ?_; intro K hK; have e24 := HF.see 24 rfl; go_wp2_with fail; clear e24 HF; intro _ HF
      refine sl_op HF rfl rfl (by decide) ?_; intro K hK; have e25 := HF.see 25 rfl; go_wp2_with fail; clear e25 HF; intro _ HF
      refine sl_op HF rfl rfl (by decide) ?_; intro K hK; have e26 := HF.see 26 rfl; go_wp2_with fail; clear e26 HF; intro _ HF
      refine sl_move HF rfl rfl (.inr rfl) (by decide) rfl ?_; clear HF; intro _ HF
      refine sl_nil (wp_ret ?_)
      refine sl_ret1 HF rfl rfl ⟨?_, HST.out.mod⟩
      show Ending.returned (.string (str [39] ++ str (quoteL l) ++ str [39])) = _
      rw [str_append, str_append]
      simp [quotedL]

noncomputable def scqBody : Code := (Tryz.f6.body).getD .skip

set_option maxHeartbeats 6400000 in
set_option maxRecDepth 100000 in
theorem scanQuotes_any (l : List UInt8) (w : World) (hl : l.length ≤ 9223372036854775807) (hx : MaxIs w) :
    Calls Tryz.prog 6 #[.string (str l)] w fun e w' => e = .returned (.bool true) ∧ Mod Nil w w' := by
  have hsz := str_size l
  have HX := Lib.hid hx
  clear hx
  refine sl_enter (n := 58) (fn := Tryz.f6) (c := scqBody) Tryz.func6 rfl rfl (by simp) fun a HF => ?_
  conv => arg 2; whnf
  refine wp_seq (wp_region_lit ?_)
  refine sl_const HF rfl rfl (.inr rfl) (by decide) ?_; clear HF; intro _ HF
  refine sl_nil (wp_seq (wp_seq (wp_region_lit ?_)))
  refine sl_op HF rfl rfl (by decide) ?_; intro K hK; go_wp2_with fail
  refine (awake12_any _).mono ?_
  rintro e w1 ⟨rfl, hm1⟩
  have HM1 := Lib.hid hm1
  clear hm1
  go_wp2_with fail; clear HF; intro _ HF
  by_cases h1 : 500 < l.length
  · have g1 : decide ((500 : Int) < (l.length : Int)) = true := by simp; omega
    clear h1
    refine sl_op HF rfl rfl (by decide) ?_; intro K hK; have e7 := HF.see 7 rfl; go_wp2_with fail; clear e7 HF; intro _ HF
    refine sl_move HF rfl rfl (.inl rfl) (by decide) rfl ?_; clear HF; intro _ HF
    refine sl_want HF rfl rfl rfl rfl (by decide) ?_; intro K hK; have e0 := HF.see 0 rfl; go_wp2_with fail; clear e0 HF; intro _ HF
    refine sl_want HF rfl rfl rfl rfl (by decide) ?_; intro K hK; have e10 := HF.see 10 rfl; go_wp2_with fail; clear e10 HF; intro _ HF
    refine sl_want HF rfl rfl rfl rfl (by decide) ?_; intro K hK; have e11 := HF.see 11 rfl; go_wp2_with fail; clear e11 HF; intro _ HF
    refine sl_op HF rfl rfl (by decide) ?_; intro K hK; have e9 := HF.see 9 rfl; have e12 := HF.see 12 rfl; go_wp2_with fail; clear e9 e12 HF; intro _ HF
    refine sl_nil (wp_cond_true (HF.at 13 rfl) (wp_seq (wp_region_lit ?_)))
    refine sl_op HF rfl rfl (by decide) ?_; intro K hK; go_wp2_with fail
    refine (awake12_any _).mono ?_
    rintro e w2 ⟨rfl, hm2⟩
    have HM2 := Lib.hid (HM1.out.trans hm2)
    clear hm2
    go_wp2_with fail; clear HF; intro _ HF
    refine sl_move HF rfl rfl (.inr rfl) (by decide) rfl ?_; clear HF; intro _ HF
    refine sl_nil (wp_ret ?_)
    dsimp only [Exit.then]
    exact sl_ret1 HF rfl rfl ⟨rfl, HM2.out⟩
  · have g1 : decide ((500 : Int) < (l.length : Int)) = false := by simp; omega
    have hl5 : l.length ≤ 500 := by omega
    clear h1
    refine sl_op HF rfl rfl (by decide) ?_; intro K hK; have e7 := HF.see 7 rfl; go_wp2_with fail; clear e7 HF; intro _ HF
    refine sl_move HF rfl rfl (.inl rfl) (by decide) rfl ?_; clear HF; intro _ HF
    refine sl_want HF rfl rfl rfl rfl (by decide) ?_; intro K hK; have e0 := HF.see 0 rfl; go_wp2_with fail; clear e0 HF; intro _ HF
    refine sl_want HF rfl rfl rfl rfl (by decide) ?_; intro K hK; have e10 := HF.see 10 rfl; go_wp2_with fail; clear e10 HF; intro _ HF
    refine sl_want HF rfl rfl rfl rfl (by decide) ?_; intro K hK; have e11 := HF.see 11 rfl; go_wp2_with fail; clear e11 HF; intro _ HF
    refine sl_op HF rfl rfl (by decide) ?_; intro K hK; have e9 := HF.see 9 rfl; have e12 := HF.see 12 rfl; go_wp2_with fail; clear e9 e12 HF; intro _ HF
    refine sl_nil (wp_cond_false (HF.at 13 rfl) (wp_skip (sl_then (wp_seq (wp_region_lit ?_)))))
    clear g1
    refine sl_move HF rfl rfl (.inl rfl) (by decide) rfl ?_; clear HF; intro _ HF
    refine sl_op HF rfl rfl (by decide) ?_; intro K hK; have e15 := HF.see 15 rfl; go_wp2_with fail
    refine (scQuote_any l hl5 _ (HX.out.keep HM1.out)).mono ?_
    rintro e w2 ⟨rfl, hm2⟩
    have HM2 := Lib.hid (HM1.out.trans hm2)
    clear hm2
    go_wp2_with fail; clear e15 HF; intro _ HF
    refine sl_move HF rfl rfl (.inr rfl) (by decide) rfl ?_; clear HF; intro _ HF
    have hql := quoteL_len l
    have hqd := quoted_len l
    refine sl_nil (wp_seq (wp_region_lit ?_))
    refine sl_move HF rfl rfl (.inl rfl) (by decide) rfl ?_; clear HF; intro _ HF
    refine sl_op HF rfl rfl (by decide) ?_; intro K hK; have e18 := HF.see 18 rfl; go_wp2_with fail
    refine (scAll_any (quotedL l) (by omega) _).mono ?_
    rintro e w3 ⟨hv, hm3⟩
    obtain ⟨v2, c2, p2, rfl, hv2⟩ := hv.vals
    rw [quoted_all hl5] at hv2
    obtain ⟨rfl, rfl, hown⟩ := hv2
    have HM3 := Lib.hid (HM2.out.trans hm3)
    obtain ⟨ad, cp, rfl, hnc, hab, hrd⟩ := own_rd hown (by simp)
    have HRD := Lib.hid hrd
    clear hv hm3 hown hrd
    simp only [List.length_cons, List.length_nil] at hnc ⊢
    go_wp2_with fail; clear e18 HF; intro _ HF
    refine sl_move HF rfl rfl (.inl rfl) (by decide) rfl ?_; clear HF; intro _ HF
    refine sl_op HF rfl rfl (by decide) ?_; intro K hK; have e17 := HF.see 17 rfl; go_wp2_with fail; clear e17 HF; intro _ HF
    refine sl_op HF rfl rfl (by decide) ?_; intro K hK; have e17 := HF.see 17 rfl; go_wp2_with fail; clear e17 HF; intro _ HF
    refine sl_op HF rfl rfl (by decide) ?_; intro K hK; have e17 := HF.see 17 rfl; go_wp2_with fail; clear e17 HF; intro _ HF
    refine sl_move HF rfl rfl (.inr rfl) (by decide) rfl ?_; clear HF; intro _ HF
    refine sl_move HF rfl rfl (.inr rfl) (by decide) rfl ?_; clear HF; intro _ HF
    refine sl_move HF rfl rfl (.inr rfl) (by decide) rfl ?_; clear HF; intro _ HF
    refine sl_nil (wp_seq (wp_region_lit ?_))
    refine sl_move HF rfl rfl (.inl rfl) (by decide) rfl ?_; clear HF; intro _ HF
    refine sl_move HF rfl rfl (.inl rfl) (by decide) rfl ?_; clear HF; intro _ HF
    refine sl_op HF rfl rfl (by decide) ?_; intro K hK; have e24 := HF.see 24 rfl; go_wp2_with fail
    refine (rQuote_any l hl5 _).mono ?_
    rintro e w4 ⟨rfl, hm4⟩
    have HM4 := Lib.hid (HM3.out.trans hm4)
    obtain ⟨ad', had, _, k0, k1, k2, k3⟩ := (HRD.out.keep0 hm4).tok (i := 0) rfl
    injection had with had
    subst had
    rw [Nat.zero_mul] at k0 k1 k2 k3
    simp only [add_zero] at k0 k1 k2 k3
    clear hm4
    have hbq : ((str (quotedL l)).toList == (str (quotedL l)).toList) = true := by simp
    have hbl : ((str l).toList == (str l).toList) = true := by simp
    go_wp2_with fail; clear e24 HF; intro _ HF
    refine sl_op HF rfl rfl (by decide) ?_; intro K hK; have e23 := HF.see 23 rfl; have e25 := HF.see 25 rfl; go_wp2_with fail; clear e23 e25 HF; intro _ HF
    refine sl_move HF rfl rfl (.inl rfl) (by decide) rfl ?_; clear HF; intro _ HF
    refine sl_want HF rfl rfl rfl rfl (by decide) ?_; intro K hK; have e5 := HF.see 5 rfl; go_wp2_with fail; clear e5 HF; intro _ HF
    refine sl_want HF rfl rfl rfl rfl (by decide) ?_; intro K hK; have e28 := HF.see 28 rfl; go_wp2_with fail; clear e28 HF; intro _ HF
    refine sl_op HF rfl rfl (by decide) ?_; intro K hK; have e27 := HF.see 27 rfl; have e29 := HF.see 29 rfl; go_wp2_with fail; clear e27 e29 HF; intro _ HF
    refine sl_move HF rfl rfl (.inl rfl) (by decide) rfl ?_; clear HF; intro _ HF
    refine sl_want HF rfl rfl rfl rfl (by decide) ?_; intro K hK; have e4 := HF.see 4 rfl; go_wp2_with fail; clear e4 HF; intro _ HF
    refine sl_want HF rfl rfl rfl rfl (by decide) ?_; intro K hK; have e32 := HF.see 32 rfl; go_wp2_with fail; clear e32 HF; intro _ HF
    refine sl_want HF rfl rfl rfl rfl (by decide) ?_; intro K hK; have e33 := HF.see 33 rfl; go_wp2_with fail; clear e33 HF; intro _ HF
    refine sl_op HF rfl rfl (by decide) ?_; intro K hK; have e31 := HF.see 31 rfl; have e34 := HF.see 34 rfl; go_wp2_with fail; clear e31 e34 HF; intro _ HF
    refine sl_move HF rfl rfl (.inl rfl) (by decide) rfl ?_; clear HF; intro _ HF
    refine sl_want HF rfl rfl rfl rfl (by decide) ?_; intro K hK; have e4 := HF.see 4 rfl; go_wp2_with fail; clear e4 HF; intro _ HF
    refine sl_want HF rfl rfl rfl rfl (by decide) ?_; intro K hK; have e37 := HF.see 37 rfl; go_wp2_with fail; clear e37 HF; intro _ HF
    refine sl_want HF rfl rfl rfl rfl (by decide) ?_; intro K hK; have e38 := HF.see 38 rfl; go_wp2_with fail; clear e38 HF; intro _ HF
    refine sl_want HF rfl rfl rfl rfl (by decide) ?_; intro K hK; have e39 := HF.see 39 rfl; go_wp2_with fail; clear e39 HF; intro _ HF
    refine sl_want HF rfl rfl rfl rfl (by decide) ?_; intro K hK; have e40 := HF.see 40 rfl; go_wp2_with fail; clear e40 HF; intro _ HF
    refine sl_op HF rfl rfl (by decide) ?_; intro K hK; have e36 := HF.see 36 rfl; have e41 := HF.see 41 rfl; go_wp2_with fail; clear e36 e41 HF; intro _ HF
    refine sl_move HF rfl rfl (.inl rfl) (by decide) rfl ?_; clear HF; intro _ HF
    refine sl_want HF rfl rfl rfl rfl (by decide) ?_; intro K hK; have e4 := HF.see 4 rfl; go_wp2_with fail; clear e4 HF; intro _ HF
    refine sl_want HF rfl rfl rfl rfl (by decide) ?_; intro K hK; have e44 := HF.see 44 rfl; go_wp2_with fail; clear e44 HF; intro _ HF
    refine sl_want HF rfl rfl rfl rfl (by decide) ?_; intro K hK; have e45 := HF.see 45 rfl; go_wp2_with fail; clear e45 HF; intro _ HF
    refine sl_want HF rfl rfl rfl rfl (by decide) ?_; intro K hK; have e46 := HF.see 46 rfl; go_wp2_with fail; clear e46 HF; intro _ HF
    refine sl_want HF rfl rfl rfl rfl (by decide) ?_; intro K hK; have e0 := HF.see 0 rfl; go_wp2_with fail; clear e0 HF; intro _ HF
    refine sl_want HF rfl rfl rfl rfl (by decide) ?_; intro K hK; have e47 := HF.see 47 rfl; have e48 := HF.see 48 rfl; go_wp2_with fail; clear e47 e48 HF; intro _ HF
    refine sl_op HF rfl rfl (by decide) ?_; intro K hK; have e43 := HF.see 43 rfl; have e49 := HF.see 49 rfl; go_wp2_with fail; clear e43 e49 HF; intro _ HF
    refine sl_move HF rfl rfl (.inl rfl) (by decide) rfl ?_; clear HF; intro _ HF
    refine sl_want HF rfl rfl rfl rfl (by decide) ?_; intro K hK; have e4 := HF.see 4 rfl; go_wp2_with fail; clear e4 HF; intro _ HF
    refine sl_want HF rfl rfl rfl rfl (by decide) ?_; intro K hK; have e52 := HF.see 52 rfl; go_wp2_with fail; clear e52 HF; intro _ HF
    refine sl_want HF rfl rfl rfl rfl (by decide) ?_; intro K hK; have e53 := HF.see 53 rfl; go_wp2_with fail; clear e53 HF; intro _ HF
    refine sl_want HF rfl rfl rfl rfl (by decide) ?_; intro K hK; have e54 := HF.see 54 rfl; go_wp2_with fail; clear e54 HF; intro _ HF
    refine sl_want HF rfl rfl rfl rfl (by decide) ?_; intro K hK; have e55 := HF.see 55 rfl; go_wp2_with fail; clear e55 HF; intro _ HF
    refine sl_op HF rfl rfl (by decide) ?_; intro K hK; have e51 := HF.see 51 rfl; have e56 := HF.see 56 rfl; go_wp2_with fail; clear e51 e56 HF; intro _ HF
    refine sl_move HF rfl rfl (.inr rfl) (by decide) rfl ?_; clear HF; intro _ HF
    refine sl_nil (wp_ret ?_)
    exact sl_ret1 HF rfl rfl ⟨rfl, HM4.out⟩
end Go.Proofs.YtpjpmlhnhcmacaaGreatDoor
