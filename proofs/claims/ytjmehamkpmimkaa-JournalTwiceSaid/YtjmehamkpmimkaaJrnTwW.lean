/- The walk of the law JournalTwice: it answers true, and turns nothing of old. -/
import Derived.Test.YtjmehamkpmimkaaJrnCrW
namespace Go.Proofs.Ytjmehamkpmimkaa
open Go.RowKit

/-- The value of a power and a crash. -/
def failVal (f : Fail4) (K : Option Addr) (d : Nat) : Value := .agg #[.int .i64 f.power, .slice K f.keep.length d, .int .i64 f.n, .int .i64 f.m]

/-- A disk on which a text stands. -/
structure TwoAt (last : List UInt8) (s : DSt) : Prop where
  ws : s.ws = []
  len : s.S.length = 896
  left : s.left ≤ 9223372036854775807
  home : hmOf 6 s.S = jArea 6 last
  mark : ∃ x, x < 4294967296 ∧ sector s.S 0 = jMark 0 x

set_option maxHeartbeats 12800000 in
set_option maxRecDepth 100000 in
theorem journalTwice_walk (A0 : Option Addr) (n0 c0 : Nat) (ps : List (List UInt8)) (f : Fail4) (K : Option Addr) (d : Nat) (w : World) (hn : ps.length = n0) (hr0 : Parts All w A0 ps) (hkl : f.keep.length ≤ maxLen) (hrk : Rd All w K (f.keep.map Value.bool)) (hp : f.power ≤ 9223372036854775807) :
    Calls Try.prog 6 #[.slice A0 n0 c0, failVal f K d] w fun r w' => r = .returned (.bool true) ∧ Mod Nil w w' := by
  unfold failVal
  have HPT := Lib.hid hr0
  have HKR := Lib.hid (show Rd (fun b => b < w.heap.size) w K (f.keep.map Value.bool) from hrk.mono (fun _ hb _ => hb))
  have HN := Lib.hid hn
  have HPW := Lib.hid hp
  have HBF := Lib.hid (Blk.new w 57 #[.int .i64 f.power, .slice K f.keep.length d, .int .i64 f.n, .int .i64 f.m])
  have HKL := Lib.hid hkl
  unfold maxLen at hkl
  clear hr0 hrk hn hp
  by_cases g0 : 8 < n0
  · skip
    go_enter Try.func6, Try.ntmps6
    go_wp2_with fail
    refine (awake4_any _).mono ?_
    rintro r w1 ⟨rfl, hm1⟩
    have HM1 := Lib.hid (((Mod.refl Nil w).alloc _).trans hm1)
    have hk1 := (HBF.out.keep hm1 id).cell 1
    clear hm1
    go_wp2_with fail
    refine (awake4_any _).mono ?_
    rintro r w2 ⟨rfl, hm2⟩
    have HM2 := Lib.hid hm2
    clear hm2
    go_wp2_with fail
    go_ret
    exact ⟨rfl, HM1.out.trans HM2.out⟩
  by_cases g1 : 60 < f.keep.length
  · skip
    go_enter Try.func6, Try.ntmps6
    go_wp2_with fail
    refine (awake4_any _).mono ?_
    rintro r w1 ⟨rfl, hm1⟩
    have HM1 := Lib.hid (((Mod.refl Nil w).alloc _).trans hm1)
    have hk1 := (HBF.out.keep hm1 id).cell 1
    clear hm1
    go_wp2_with fail
    refine (awake4_any _).mono ?_
    rintro r w2 ⟨rfl, hm2⟩
    have HM2 := Lib.hid hm2
    clear hm2
    go_wp2_with fail
    go_ret
    exact ⟨rfl, HM1.out.trans HM2.out⟩
  have hz := newS_sized (n := 14) (by omega) (by omega)
  have hA : jA 14 = 6 := by decide
  rw [hA] at hz
  obtain ⟨hf1, hf2⟩ := format_stood (t := []) hz (by simp) rfl rfl
  have HNW := Lib.hid (fun w' => dskNew_ok 14 w' (by omega) (by omega))
  rw [show (⟨List.replicate (64 * 14) 0, [], -1⟩ : DSt) = newS 14 from rfl] at HNW
  obtain ⟨s0, hs0⟩ : ∃ s0, s0 = newS 14 := ⟨_, rfl⟩
  rw [← hs0] at hf1 hf2 hz HNW
  have hw0 : s0.ws = [] ∧ s0.left = -1 := by rw [hs0]; exact ⟨rfl, rfl⟩
  have HZ := Lib.hid hz
  have HW0 := Lib.hid hw0
  have HF1 := Lib.hid hf1
  have HF2 := Lib.hid hf2
  clear hz hA hf1 hf2 hs0 hw0
  go_enter Try.func6, Try.ntmps6
  go_wp2_with fail
  refine (awake4_any _).mono ?_
  rintro r w0 ⟨rfl, hm0⟩
  have HM0 := Lib.hid (((Mod.refl Nil w).alloc (.cells #[.int .i64 f.power, .slice K f.keep.length d, .int .i64 f.n, .int .i64 f.m] 57)).trans hm0)
  have HBF0 := Lib.hid (HBF.out.keep hm0 id)
  have hk1 := HBF0.out.cell 1
  clear hm0
  go_wp2_with fail
  refine (HNW.out _).mono ?_
  rintro r w1 ⟨g, F, rfl, hd1, hm1⟩
  have HD1 := Lib.hid hd1
  have HM1 := Lib.hid hm1
  clear hd1 hm1 hk1
  go_wp2_with fail
  refine (jformat_any w0.heap.size g F s0 none 0 0 [] _ HD1.out HM1.out.size rfl (Rd.nil _ _ _) (by rw [HW0.out.1]; simp) (by rw [HW0.out.2]; omega)).mono ?_
  rintro r w2 ⟨rfl, F2, hd2, hm2, hF2⟩
  obtain ⟨s1, hs1⟩ : ∃ s1, s1 = (jFormat [] s0).1 := ⟨_, rfl⟩
  rw [HF1.out.1]
  rw [← hs1] at hd2
  have HD2 := Lib.hid hd2
  have HM2 := Lib.hid (HM1.out.disk HD1.out hm2 (Nat.le_refl _))
  have HT1 := Lib.hid (show TwoAt [] s1 from ⟨by rw [hs1]; exact HF1.out.2.1, by rw [hs1]; exact HF1.out.2.2.1, by rw [hs1, HF2.out]; omega, by rw [hs1]; exact HF1.out.2.2.2.1, by rw [hs1]; exact HF1.out.2.2.2.2⟩)
  clear hs1 hd2 hm2 hF2
  go_wp2_with fail
  go_loopw [7, 8] (fun lv iv wr => ∃ (i : Nat) (last : List UInt8) (F : Nat → Prop) (s : DSt), i ≤ n0 ∧ iv = .int .i64 i ∧ lv = .string (str last) ∧ DskAt w0.heap.size wr g F s ∧ TwoAt last s ∧ last.length ≤ 372 ∧ Mod Nil w0 wr) (fun _ v _ => n0 - (intOf v).toNat)
  case atStart => exact ⟨0, [], F2, s1, Nat.zero_le _, rfl, rfl, HD2.out, HT1.out, by simp, HM2.out⟩
  case round =>
    obtain ⟨i, last, F, s, hi, rfl, rfl, hd, ht, hll, hm⟩ := hrel
    have HD := Lib.hid hd
    have HT := Lib.hid ht
    have HM := Lib.hid hm
    have HMW := Lib.hid (HM0.out.trans hm)
    clear hd ht hm
    by_cases hlt : i < n0
    · obtain ⟨t, hti⟩ : ∃ t, ps[i]? = some t := ⟨_, List.getElem?_eq_getElem (by rw [HN.out]; exact hlt)⟩
      obtain ⟨vs, hvr, _, hvs⟩ := HPT.out
      obtain ⟨Bt, ct, hv, htm, htr⟩ := hvs i t hti
      obtain ⟨ad, rfl, _, hadl, hc⟩ := hvr.at_ hv
      have HTR := Lib.hid htr
      have HCA := Lib.hid (show ∀ wx, Mod Nil w wx → wx.cell? (ad.add i) = some (.slice Bt t.length ct) from fun wx hm => (hm.cell (by rw [block_of_add]; exact hadl) id).trans hc)
      have hc := HCA.out _ HMW.out
      unfold maxLen at htm
      have hzs := HZ.out.to (s' := s) HT.out.len
      have hbf := HBF0.out.keep HM.out id
      clear hvr hvs hv hti htr
      by_cases h372 : 372 < t.length
      · have HE := Lib.hid (show jPut t s = (s, 21) by
          have hf := fits_full (t := t) hzs.area hzs.four hzs.most (by omega)
          unfold jPut
          rw [if_neg (by rw [hf]; decide), hf])
        clear hzs hbf
        go_wp2_with fail
        refine (jput_any w0.heap.size g F s Bt t.length ct t _ HD.out HM.out.size rfl (HTR.out.keep0 HMW.out) (by rw [HT.out.ws]; simp) HT.out.left).mono ?_
        rw [HE.out]
        rintro r w5 ⟨rfl, F5, hd5, hm5, hF5⟩
        have HD5 := Lib.hid hd5
        have HM5 := Lib.hid (HM.out.disk HD.out hm5 (Nat.le_refl _))
        clear hd5 hm5 hF5 hc
        go_wp2_with fail
        go_roundw
        case rel => exact ⟨i + 1, last, F5, s, by omega, by go_num, rfl, HD5.out, HT.out, hll, HM5.out⟩
        case measure => simp [intOf] <;> omega
      · have hp0 := hbf.cell 0
        obtain ⟨X, hX1, hX2, hX3⟩ := put_crash2 (s := s.power f.power) (t := t) (HZ.out.to HT.out.len) (by omega) HT.out.ws HT.out.home HT.out.mark
        have hgr := (put_g t (s.power f.power) (dok_nil HT.out.ws) (.inl (by rw [← (HZ.out.to (s' := s.power f.power) HT.out.len).area]; omega)) (by rw [← (HZ.out.to (s' := s.power f.power) HT.out.len).area]; omega)).2
        have hw4 : (jPut t (s.power f.power)).1.ws.length ≤ 100000 := by
          have := hgr.2.1
          have h5 : (s.power f.power).ws = [] := HT.out.ws
          rw [h5] at this
          simp at this
          omega
        have HW4 := Lib.hid hw4
        have HX1 := Lib.hid hX1
        have HX2 := Lib.hid hX2
        have HX3 := Lib.hid hX3
        clear hX1 hX2 hX3 hgr hw4 hzs hbf
        go_wp2_with fail
        refine (dskPower_any w0.heap.size g F s f.power _ HD.out).mono ?_
        rintro r w4 ⟨rfl, F4, hd4, hm4, hF4⟩
        have HD4 := Lib.hid (show DskAt w0.heap.size w4 g F4 (s.power f.power) from hd4)
        have hm04 := HM.out.disk HD.out hm4 (Nat.le_refl _)
        have HM4 := Lib.hid hm04
        have hc := HCA.out _ (HM0.out.trans HM4.out)
        clear hd4 hm4 hF4 hp0 hm04
        go_wp2_with fail
        refine (jput_any w0.heap.size g F4 (s.power f.power) Bt t.length ct t _ HD4.out HM4.out.size rfl (HTR.out.keep0 (HM0.out.trans HM4.out)) (by show s.ws.length ≤ _; rw [HT.out.ws]; simp) (by show max f.power (-1) ≤ _; have := HPW.out; omega)).mono ?_
        rintro r w5 ⟨rfl, F5, hd5, hm5, hF5⟩
        obtain ⟨s4, hs4⟩ : ∃ s4, s4 = (jPut t (s.power f.power)).1 := ⟨_, rfl⟩
        obtain ⟨e4, he4⟩ : ∃ e4, e4 = (jPut t (s.power f.power)).2 := ⟨_, rfl⟩
        rw [← hs4] at HX3 hd5 HW4
        rw [← he4] at HX2 ⊢
        have HD5 := Lib.hid hd5
        have HM5 := Lib.hid (HM4.out.disk HD4.out hm5 (Nat.le_refl _))
        have hbf5 := HBF0.out.keep HM5.out id
        have hq1 := hbf5.cell 1
        have hq2 := hbf5.cell 2
        have hq3 := hbf5.cell 3
        clear hs4 he4 hd5 hm5 hF5 hc hbf5
        go_wp2_with fail
        refine (dskCrash_any w0.heap.size g F5 s4 K f.keep.length d f.keep f.n f.m (fun b => b < w.heap.size) _ HD5.out (by have := HW4.out; omega) rfl HKL.out (HKR.out.keep0 (HM0.out.trans HM5.out)) (fun k hk hF => by have := (HD5.out.lt k hF).1; have := HM0.out.size; omega)).mono ?_
        rintro r w6 ⟨rfl, F6, hd6, hm6, hF6⟩
        have hso := HX3.out f.keep f.n f.m
        obtain ⟨s5, hs5⟩ : ∃ s5, s5 = s4.crash f.keep f.n f.m := ⟨_, rfl⟩
        rw [← hs5] at hd6 hso
        have HD6 := Lib.hid hd6
        have HM6 := Lib.hid (HM5.out.disk HD5.out hm6 (Nat.le_refl _))
        have HSO := Lib.hid hso
        have hzs := HZ.out.to (s' := s5) hso.len
        have hal : (jArea 6 t).length = 64 * 6 := jArea_len (by omega)
        obtain ⟨t', hst, htl, htx⟩ : ∃ t', Stood 6 896 (jArea 6 t') (jRecover s5) ∧ t'.length ≤ 372 ∧ (t' = t ∨ (t' = last ∧ last ≠ t ∧ e4 ≠ 0)) := by
          rcases recover_ok hzs hal hso with h | h
          · rcases HX1.out with hX | hX
            · by_cases h01 : last = t
              · exact ⟨t, by rw [← h01, ← hX]; exact h, by omega, .inl rfl⟩
              · by_cases h4 : e4 = 0
                · have := HX2.out h4
                  exact ⟨t, by rw [← this]; exact h, by omega, .inl rfl⟩
                · exact ⟨last, by rw [← hX]; exact h, hll, .inr ⟨rfl, h01, h4⟩⟩
            · exact ⟨t, by rw [← hX]; exact h, by omega, .inl rfl⟩
          · exact ⟨t, h, by omega, .inl rfl⟩
        have hget := hst.get hzs (show t'.length + 12 ≤ 64 * 6 by omega)
        have hgl := (recover_g s5 (dok_nil hso.ws) (by rw [← hzs.area]; omega)).2.2.2
        have hz6 := hzs.to hst.2.2.1
        have hag := recover_again hz6.room hst.2.1 hst.2.2.2.2
        have HSW := Lib.hid hso.ws
        have HSL := Lib.hid hso.left
        have HTX := Lib.hid htx
        have HE0 := Lib.hid hst.1
        have HTW := Lib.hid (show TwoAt t' (jRecover s5).1 from ⟨hst.2.1, hst.2.2.1, by have := hso.left; omega, hst.2.2.2.1, hst.2.2.2.2⟩)
        have HGET := Lib.hid hget
        have HAG := Lib.hid hag
        clear hs5 hd6 hm6 hF6 hso hzs hal hst htx hget hgl hz6 hag hq1 hq2 hq3
        go_wp2_with fail
        refine (jrecover_any w0.heap.size g F6 s5 _ HD6.out HM6.out.size (by rw [HSW.out]; simp) (by rw [HSL.out]; omega)).mono ?_
        rintro r w7 ⟨rfl, F7, hd7, hm7, hF7⟩
        obtain ⟨s6, hs6⟩ : ∃ s6, s6 = (jRecover s5).1 := ⟨_, rfl⟩
        rw [HE0.out]
        rw [← hs6] at hd7 HTW HGET HAG
        have HD7 := Lib.hid hd7
        have HM7 := Lib.hid (HM6.out.disk HD6.out hm7 (Nat.le_refl _))
        clear hs6 hd7 hm7 hF7
        go_wp2_with fail
        refine (jget_any w0.heap.size g F7 s6 _ HD7.out (by rw [HTW.out.ws]; simp)).mono ?_
        rw [HGET.out]
        rintro r w8 ⟨A8, n8, c8, rfl, ho8, hm8⟩
        have hn8 : t'.length = n8 := by have := ho8.1; simpa using this
        have HN8 := Lib.hid hn8
        have HR8 := Lib.hid (Rd.of_own ho8)
        have HD8 := Lib.hid (HD7.out.keep0 hm8)
        have HM8 := Lib.hid (HM7.out.trans hm8)
        clear ho8 hm8 hn8
        go_wp2_with fail
        refine (dskImage_any _ g F7 s6 _ HD8.out (by rw [HTW.out.ws]; simp)).mono ?_
        rintro r w9 ⟨v9, rfl, ho9, hm9⟩
        obtain ⟨A9, c9, rfl, _, _⟩ := own_slice ho9
        have k9 := conv_bytes (l := s6.img) (n := s6.S.length) (Rd.of_own ho9) HD8.out.sized.2.2.2.img c9
        have HD9 := Lib.hid (HD8.out.keep0 hm9)
        have HM9 := Lib.hid (HM8.out.trans hm9)
        have HR9 := Lib.hid (HR8.out.keep0 hm9)
        clear ho9 hm9
        go_wp2_with fail
        refine (jrecover_any w0.heap.size g F7 s6 _ HD9.out HM9.out.size (by rw [HTW.out.ws]; simp) HTW.out.left).mono ?_
        rw [HAG.out]
        rintro r wa ⟨rfl, Fa, hda, hma, hFa⟩
        have HDa := Lib.hid hda
        have HMa := Lib.hid (HM9.out.disk HD9.out hma (Nat.le_refl _))
        have HRa := Lib.hid (HR9.out.keep hma (fun k hk hF => by have := (HD7.out.lt k hF).2; omega))
        clear hda hma hFa k9
        go_wp2_with fail
        refine (dskImage_any _ g Fa s6 _ HDa.out (by rw [HTW.out.ws]; simp)).mono ?_
        rintro r wb ⟨vb, rfl, hob, hmb⟩
        obtain ⟨Ab, cb, rfl, _, _⟩ := own_slice hob
        have kb := conv_bytes (l := s6.img) (n := s6.S.length) (Rd.of_own hob) HDa.out.sized.2.2.2.img cb
        have HDb := Lib.hid (HDa.out.keep0 hmb)
        have HMb := Lib.hid (HMa.out.trans hmb)
        have HRb := Lib.hid (HRa.out.keep0 hmb)
        clear hob hmb
        go_wp2_with fail
        have kt := fun j => conv_bytes (l := t') (n := n8) (HRb.out.keep0 ((Mod.refl Nil wb).drewN j)) HN8.out c8
        have kx := fun j => conv_bytes (l := t) (n := t.length) (HTR.out.keep0 ((HM0.out.trans HMb.out).drewN j)) rfl ct
        have hc := HCA.out _ (HM0.out.trans HMb.out)
        rcases HTX.out with htt | ⟨htt, hne, h4⟩
        · have HTT := Lib.hid htt
          subst htt
          go_wp2_with (go_quiet (fail))
          go_roundw
          case rel => exact ⟨i + 1, t', Fa, s6, by omega, by go_num, rfl, HDb.out.keep0 ((Mod.refl Nil wb).drewN _), HTW.out, htl, HMb.out.drewN _⟩
          case measure => simp [intOf] <;> omega
        · subst htt
          have hb4 : (e4 == 0) = false := by simp [h4]
          have hbs : ((str t').toList == (str t).toList) = false := by
            rw [ByteArray.toList_eq, ByteArray.toList_eq, str_list, str_list]
            simp [hne]
          have H4 := Lib.hid h4
          have HNE := Lib.hid hne
          clear h4 hne
          go_wp2_with (go_quiet (fail))
          go_roundw
          case rel => exact ⟨i + 1, t', Fa, s6, by omega, by go_num, rfl, HDb.out.keep0 ((Mod.refl Nil wb).drewN _), HTW.out, htl, HMb.out.drewN _⟩
          case measure => simp [intOf] <;> omega
    · go_wp2_with fail
      go_ret
      exact ⟨rfl, HM0.out.trans HM.out⟩

end Go.Proofs.Ytjmehamkpmimkaa
