/- The walk of the law OctetBack: it answers true, and turns nothing of old. -/
import Derived.Test.YtdllafmponmkmaaOctReadsW
namespace Go.Proofs.Ytdllafmponmkmaa
open Go.RowKit

theorem drop_cons {α : Type} {l : List α} {i : Nat} {x : α} (h : l[i]? = some x) : l.drop i = x :: l.drop (i + 1) := by
  obtain ⟨hi, rfl⟩ := List.getElem?_eq_some_iff.1 h
  exact List.drop_eq_getElem_cons hi

theorem octs_sv (l : List ByteArray) : (octs l).map sv = l.map Value.string := by
  rw [octs, List.map_map]
  apply List.map_congr_left
  intro t _
  show Value.string (str t.data.toList) = _
  rw [str_eta]

/-- Where the law stands behind k fields that are written. -/
def WrittenAt (w0 : World) (fs : List Fld) (k : Nat) (wr : World) : Prop :=
  ∃ (v : Value) (out : List UInt8) (ok : Bool), ok = (fs.take k).all okFld ∧ (ok = true → out = ((fs.take k).map encFld).flatten) ∧ out.length ≤ k * 3000 ∧ WrAt w0.heap.size wr w0.heap.size v (out, errOf ok) ∧ Mod Nil w0 wr

theorem written_step {w0 wx : World} {fs : List Fld} {k : Nat} {f : Fld} {v : Value} {out : List UInt8} {ok : Bool} (hf : fs[k]? = some f) (hsm : fldSmall f = true) (hok : ok = (fs.take k).all okFld) (hout : ok = true → out = ((fs.take k).map encFld).flatten) (hl : out.length ≤ k * 3000)
    (hw : WrAt w0.heap.size wx w0.heap.size v (fldW f (out, errOf ok))) (hm : Mod Nil w0 wx) : WrittenAt w0 fs (k + 1) wx := by
  have hel := encFld_len f hsm
  rw [fldW_step f out ok hsm] at hw
  refine ⟨v, _, _, ?_, ?_, ?_, hw, hm⟩
  · rw [List.take_add_one, hf, List.all_append, hok]; simp
  · intro h
    have h1 : ok = true := by revert h; cases ok <;> simp
    rw [if_pos h, hout h1, List.take_add_one, hf]
    simp
  · split
    · rw [List.length_append]; omega
    · exact Nat.le_trans hl (Nat.mul_le_mul_right _ (Nat.le_succ k))

set_option maxHeartbeats 12800000 in
set_option maxRecDepth 100000 in
theorem octetBack_walk (A : Option Addr) (n c : Nat) (fs : List Fld) (A1 : Option Addr) (n1 c1 : Nat) (l1 : List UInt8) (w : World) (hn : fs.length = n) (hr : FldsAt All w A fs) (hb : ∀ f ∈ fs, -9223372036854775808 ≤ f.n ∧ f.n ≤ 9223372036854775807) (hl1 : l1.length = n1) (hr1 : Rd All w A1 (l1.map bv)) :
    Calls Try.prog 14 #[.slice A n c, .slice A1 n1 c1] w fun e w' => e = .returned (.bool true) ∧ Mod Nil w w' := by
  have HN := Lib.hid hn
  have HR := Lib.hid (FldsAt.low hr)
  have HB := Lib.hid hb
  have HL1 := Lib.hid hl1
  have HR1 := Lib.hid hr1.low1
  clear hn hr hb hl1 hr1
  by_cases hsm : fldsSmall fs = true
  · by_cases h2 : 200 < n1
    · have HSM := Lib.hid hsm
      clear hsm
      go_enter Try.func14, Try.ntmps14
      go_wp2_with fail
      refine (awake1_any _).mono ?_
      rintro e w0 ⟨rfl, hm0⟩
      have HM0 := Lib.hid hm0
      clear hm0
      go_wp2_with fail
      refine (small_any (fun b => b < w.heap.size) A n c fs _ HN.out (HR.out.keep HM0.out (fun _ _ => id))).mono ?_
      rintro e w1 ⟨rfl, rfl⟩
      rw [HSM.out]
      go_wp2_with fail
      refine (awake1_any _).mono ?_
      rintro e w2 ⟨rfl, hm2⟩
      have HM2 := Lib.hid hm2
      clear hm2
      go_wp2_with fail
      go_ret
      exact ⟨rfl, HM0.out.trans HM2.out⟩
    obtain ⟨i0, hi, hz0, hz1, hz2⟩ := info_parts u8_info
    have hn20 : n ≤ 20 := by
      unfold fldsSmall at hsm
      rw [HN.out] at hsm
      simp only [Bool.and_eq_true, decide_eq_true_eq] at hsm
      exact hsm.1
    have hall : ∀ f ∈ fs, fldSmall f = true := by
      unfold fldsSmall at hsm
      simp only [Bool.and_eq_true, List.all_eq_true] at hsm
      exact hsm.2
    have HSM := Lib.hid hsm
    have HALL := Lib.hid hall
    clear hsm hall
    go_enter Try.func14, Try.ntmps14
    go_wp2_with fail
    refine (awake1_any _).mono ?_
    rintro e w0 ⟨rfl, hm0⟩
    have HM0 := Lib.hid hm0
    clear hm0
    go_wp2_with fail
    refine (small_any (fun b => b < w.heap.size) A n c fs _ HN.out (HR.out.keep HM0.out (fun _ _ => id))).mono ?_
    rintro e w1 ⟨rfl, rfl⟩
    rw [HSM.out]
    have HW := Lib.hid (wr_new w0)
    go_wp2_with fail
    go_loopw [6] (fun i wr => ∃ k : Nat, k ≤ n ∧ i = .int .i64 k ∧ WrittenAt w0 fs k wr) (fun i _ => n - (intOf i).toNat)
    case atStart => exact ⟨0, Nat.zero_le _, rfl, .slice none 0 0, [], true, rfl, fun _ => rfl, Nat.zero_le _, HW.out, (Mod.refl _ _).alloc _⟩
    case round =>
      obtain ⟨k, hk, rfl, ⟨v, out, ok, hok, hout, hol, hw, hm⟩⟩ := hrel
      have HWr := Lib.hid hw
      have HMr := Lib.hid hm
      have HOK := Lib.hid hok
      have HOUT := Lib.hid hout
      clear hw hm hok hout
      by_cases hlt : k < n
      · obtain ⟨f, hf⟩ : ∃ f, fs[k]? = some f := ⟨_, List.getElem?_eq_getElem (by rw [HN.out]; exact hlt)⟩
        have hfs := HALL.out f (List.mem_of_getElem? hf)
        obtain ⟨b, o, rfl, _, hbl, hat⟩ := (HR.out.keep (HM0.out.trans HMr.out) (fun _ _ => id)) (by rw [HN.out]; omega)
        obtain ⟨h0, h1, h2, B, cB, h3, hl, hs, ht, hRB⟩ := hat k f hf
        have HFS := Lib.hid hfs
        have HRB := Lib.hid hRB
        have HF := Lib.hid hf
        clear hat hf hfs ht hRB
        go_upto_block 2 with (fail)
        have hlow : ∀ j, Foot w0.heap.size v j → w0.heap.size ≤ j := HWr.out.low
        have HLW := Lib.hid hlow
        have HWA := Lib.hid (WrAt.keep HWr.out ((Mod.refl Nil wr).alloc (.cells #[.int .i64 f.kind, .int .i64 f.n, .string f.s, .slice B f.l.length cB] 37)) (fun _ _ => id))
        clear hlow
        have hgw := HWr.out.lt _ (.inl rfl)
        by_cases k0 : f.kind = 0
        · have k0b : (f.kind == 0) = true := by simp [k0]
          have E1 := Lib.hid (show fldW f (out, errOf ok) = wNum f.n (out, errOf ok) by unfold fldW; rw [if_pos k0])
          clear k0
          go_wp2_with fail
          refine (wnum_any w0.heap.size w0.heap.size v (out, errOf ok) f.n _ HWA.out (by simp; omega) (by simp; omega)).mono ?_
          rintro r w2 ⟨rfl, v2, hw2, hm2, _⟩
          have HW2 := Lib.hid hw2
          have HM2 := Lib.hid (((HMr.out.alloc _).trans' hm2 (fun _ _ h => h) (fun j hj h => by have := HLW.out j h; omega) : Mod Nil w0 w2))
          clear hw2 hm2
          go_wp2_with fail
          go_roundw
          case rel => exact ⟨k + 1, by omega, by go_num, written_step HF.out HFS.out HOK.out HOUT.out hol (by rw [E1.out]; exact HW2.out) HM2.out⟩
          case measure => simp [intOf] <;> omega
        have k0b : (f.kind == 0) = false := by simp [k0]
        by_cases k1 : f.kind = 1
        · have k1b : (f.kind == 1) = true := by simp [k1]
          have E1 := Lib.hid (show fldW f (out, errOf ok) = wInt f.n (out, errOf ok) by unfold fldW; rw [if_neg k0, if_pos k1])
          clear k0 k1
          go_wp2_with fail
          refine (wint_any w0.heap.size w0.heap.size v (out, errOf ok) f.n _ HWA.out (by simp; omega) (by simp; omega)).mono ?_
          rintro r w2 ⟨rfl, v2, hw2, hm2, _⟩
          have HW2 := Lib.hid hw2
          have HM2 := Lib.hid (((HMr.out.alloc _).trans' hm2 (fun _ _ h => h) (fun j hj h => by have := HLW.out j h; omega) : Mod Nil w0 w2))
          clear hw2 hm2
          go_wp2_with fail
          go_roundw
          case rel => exact ⟨k + 1, by omega, by go_num, written_step HF.out HFS.out HOK.out HOUT.out hol (by rw [E1.out]; exact HW2.out) HM2.out⟩
          case measure => simp [intOf] <;> omega
        have k1b : (f.kind == 1) = false := by simp [k1]
        have hfs2 := HFS.out
        simp only [fldSmall, Bool.and_eq_true, decide_eq_true_eq, List.all_eq_true] at hfs2
        obtain ⟨⟨hs200, hl20⟩, ht100⟩ := hfs2
        have HT100 := Lib.hid ht100
        clear ht100
        by_cases k2 : f.kind = 2
        · have k2b : (f.kind == 2) = true := by simp [k2]
          have E1 := Lib.hid (show fldW f (out, errOf ok) = wText f.s.data.toList (out, errOf ok) by unfold fldW; rw [if_neg k0, if_neg k1, if_pos k2])
          clear k0 k1 k2
          go_wp2_with fail
          refine (wtext_any w0.heap.size w0.heap.size v (out, errOf ok) f.s _ HWA.out (by simp; omega) (by simp; omega)).mono ?_
          rintro r w2 ⟨rfl, v2, hw2, hm2, _⟩
          have HW2 := Lib.hid hw2
          have HM2 := Lib.hid (((HMr.out.alloc _).trans' hm2 (fun _ _ h => h) (fun j hj h => by have := HLW.out j h; omega) : Mod Nil w0 w2))
          clear hw2 hm2
          go_wp2_with fail
          go_roundw
          case rel => exact ⟨k + 1, by omega, by go_num, written_step HF.out HFS.out HOK.out HOUT.out hol (by rw [E1.out]; exact HW2.out) HM2.out⟩
          case measure => simp [intOf] <;> omega
        · have k2b : (f.kind == 2) = false := by simp [k2]
          have E1 := Lib.hid (show fldW f (out, errOf ok) = wTexts (octs f.l) (out, errOf ok) by unfold fldW; rw [if_neg k0, if_neg k1, if_neg k2])
          clear k0 k1 k2
          have hmul : f.l.length * (4 + 100) ≤ 20 * 104 := Nat.mul_le_mul_right _ hl20
          go_wp2_with fail
          refine (wtexts_any w0.heap.size w0.heap.size v (out, errOf ok) B f.l.length _ 100 f.l _ HWA.out (by simp; omega) rfl ((HRB.out.mono (S' := fun b => ¬ Foot w0.heap.size v b) ?_).keep ((Mod.refl Nil wr).alloc _) (fun _ _ => id)) HT100.out (by simp; omega)).mono ?_
          · intro j _ hj hf
            have := HLW.out j hf
            have := HM0.out.size
            omega
          rintro r w2 ⟨rfl, v2, hw2, hm2, _⟩
          have HW2 := Lib.hid hw2
          have HM2 := Lib.hid (((HMr.out.alloc _).trans' hm2 (fun _ _ h => h) (fun j hj h => by have := HLW.out j h; omega) : Mod Nil w0 w2))
          clear hw2 hm2
          go_wp2_with fail
          go_roundw
          case rel => exact ⟨k + 1, by omega, by go_num, written_step HF.out HFS.out HOK.out HOUT.out hol (by rw [E1.out]; exact HW2.out) HM2.out⟩
          case measure => simp [intOf] <;> omega
      · have HFI := Lib.hid (show fs.take k = fs from List.take_of_length_le (by rw [HN.out]; omega))
        rw [HFI.out] at HOK HOUT
        cases ok
        · go_wp2_with fail
          refine (werr_any w0.heap.size w0.heap.size v (out, errOf false) _ HWr.out).mono ?_
          rintro r w2 ⟨rfl, rfl⟩
          go_wp2_with fail
          refine (werr_any w0.heap.size w0.heap.size v (out, errOf false) _ HWr.out).mono ?_
          rintro r w2 ⟨rfl, rfl⟩
          go_wp2_with fail
          go_ret
          exact ⟨rfl, HM0.out.trans HMr.out⟩
        · have HOA := Lib.hid (show ∀ f ∈ fs, okFld f = true by have := HOK.out; rw [eq_comm, List.all_eq_true] at this; exact this)
          have HO := Lib.hid (HOUT.out rfl)
          clear HOUT HOK
          go_wp2_with fail
          refine (werr_any w0.heap.size w0.heap.size v (out, errOf true) _ HWr.out).mono ?_
          rintro r w2 ⟨rfl, rfl⟩
          go_wp2_with fail
          refine (wbytes_any w0.heap.size w0.heap.size v (out, errOf true) _ HWr.out (by simp; omega)).mono ?_
          rintro r w3 ⟨v3, rfl, hown, hm3⟩
          obtain ⟨A3, c3, rfl, _, _⟩ := own_slice hown
          have HOW := Lib.hid hown
          have HM3 := Lib.hid (HMr.out.trans hm3)
          have HZ := Lib.hid hm3.size
          have hol2 : out.length ≤ 60000 := by omega
          clear hown hm3
          go_wp2_with (at_builtin; refine wpList_append1' _ rfl (.tmp 59) (.tmp 60) 22 rfl wr.heap.size 5 i0 (.int .u8 0) 1 Try.underlying22 hi hz0 hz1 hz2 rfl (.slice A3 out.length c3) out.length (out.map bv) rfl HOW.out All A1 n1 c1 (l1.map bv) rfl (by rw [List.length_map, HL1.out]) ((HR1.out.keep0 (HM0.out.trans HM3.out)).mono (fun _ _ _ => trivial)) (bv_one l1) (by omega) (by simp only [maxLen]; omega) (by have := HZ.out; simp; omega) ?_; intro A4 c4 w4 hown2 hmod2 hat2; have HO4 := Lib.hid hown2; have HM4 := Lib.hid (HM3.out.trans' hmod2 (H := Nil) (fun _ _ h => h) (fun j hj hjv => by have := (HOW.out.lt j hjv).1; have := HMr.out.size; omega)); clear hown2 hmod2 hat2)
          have HOL := Lib.hid (show (out ++ l1).length = out.length + n1 by rw [List.length_append, HL1.out])
          refine (ropen_any A4 (out.length + n1) c4 (out ++ l1) _ HOL.out (by omega) (by rw [List.map_append]; exact (Rd.of_own HO4.out).mono (fun _ _ _ => trivial))).mono ?_
          rintro r w5 ⟨S, g, rfl, hd5, hs5, hm5⟩
          have HST := Lib.hid (show ∃ s, RdrAt S w5 g s ∧ s = (((fs.drop 0).map encFld).flatten ++ l1, 0) ∧ Mod Nil w0 w5 from ⟨_, hd5, by rw [HO.out]; rfl, HM4.out.trans hm5⟩)
          have HS5 := Lib.hid (show ∀ k, S k ∨ k = g → w0.heap.size ≤ k ∧ k < w5.heap.size from fun k hk => ⟨Nat.le_trans HM4.out.size (hs5 k hk).1, (hs5 k hk).2⟩)
          clear hd5 hs5 hm5
          go_wp2_with fail
          go_loopw [9] (fun iv wr => ∃ i : Nat, i ≤ n ∧ iv = .int .i64 i ∧ w5.heap.size ≤ wr.heap.size ∧ ∃ s, RdrAt S wr g s ∧ s = (((fs.drop i).map encFld).flatten ++ l1, 0) ∧ Mod Nil w0 wr) (fun v _ => n - (intOf v).toNat)
          case atStart => exact ⟨0, Nat.zero_le _, rfl, Nat.le_refl _, HST.out⟩
          case round =>
            obtain ⟨i, hi', rfl, hz, s, hd, rfl, hm⟩ := hrel
            have HD := Lib.hid hd
            have HM := Lib.hid hm
            clear hd hm
            by_cases hlt : i < n
            · obtain ⟨f, hf⟩ : ∃ f, fs[i]? = some f := ⟨_, List.getElem?_eq_getElem (by rw [HN.out]; exact hlt)⟩
              have hfs := HALL.out f (List.mem_of_getElem? hf)
              have HBF := Lib.hid (HB.out f (List.mem_of_getElem? hf))
              have HOF := Lib.hid (HOA.out f (List.mem_of_getElem? hf))
              obtain ⟨b, o, rfl, _, hbl, hat⟩ := (HR.out.keep (HM0.out.trans HM.out) (fun _ _ => id)) (by rw [HN.out]; omega)
              obtain ⟨h0, h1, h2, B, cB, h3, hl, hs, ht, hRB⟩ := hat i f hf
              have HRB := Lib.hid hRB
              obtain ⟨T, hT⟩ : ∃ T, T = ((fs.drop (i + 1)).map encFld).flatten ++ l1 := ⟨_, rfl⟩
              have HDD := Lib.hid (show RdrAt S wr g (encFld f ++ T, 0) by have := HD.out; rw [drop_cons hf, List.map_cons, List.flatten_cons, List.append_assoc, ← hT] at this; exact this)
              have HBK := Lib.hid (Blk.new wr 37 #[.int .i64 f.kind, .int .i64 f.n, .string f.s, .slice B f.l.length cB])
              have HFS := Lib.hid hfs
              have hgw := HD.out.lt
              have HTT := Lib.hid hT
              clear hat hf hfs ht hRB hT
              go_upto_block 5 with (fail)
              go_cut [11] (fun v wx => v = .bool true ∧ RdrAt S wx g (T, 0) ∧ Mod Nil w0 wx ∧ w5.heap.size ≤ wx.heap.size)
              case first =>
                have HDA := Lib.hid (show RdrAt S (wr.alloc (.cells #[.int .i64 f.kind, .int .i64 f.n, .string f.s, .slice B f.l.length cB] 37)).drew g (encFld f ++ T, 0) from HDD.out.keep0 ((((Mod.refl Nil wr).alloc _)).drew))
                by_cases k0 : f.kind = 0
                · have k0b : (f.kind == 0) = true := by simp [k0]
                  have hon : okNum f.n = true := by have := HOF.out; unfold okFld at this; rw [if_pos k0] at this; exact this
                  have hnn : ((f.n.toNat : Nat) : Int) = f.n := by unfold okNum at hon; simp at hon; omega
                  have hc := rnum_any S g _ _ HDA.out
                  rw [show encFld f = encNum f.n by unfold encFld; rw [if_pos k0], rNum_enc f.n T hon] at hc
                  dsimp only at hc
                  rw [hnn] at hc
                  have HC := Lib.hid hc
                  clear k0 hon hnn hc
                  go_wp2_with fail
                  go_region_law (first
                    | (go_simp
                       go_at_call 63
                       refine HC.out.mono ?_
                       rintro r w6 ⟨rfl, hd6, hm6⟩
                       have hcN := (HBK.out.drew.keep hm6 (by omega)).cell 1
                       have HD6 := Lib.hid hd6
                       have HM6 := Lib.hid ((((HM.out.alloc _).drew).trans' hm6 (fun _ _ h => h) (fun k hk hkg => by have := (HS5.out g (.inr rfl)).1; omega) : Mod Nil w0 w6))
                       have HZ6 := Lib.hid (Nat.le_trans (((Mod.refl Nil wr).alloc _).drew).size hm6.size)
                       clear hd6 hm6))
                  all_goals
                    go_simp
                    go_wp2_with fail
                    go_meet
                    case rel => exact ⟨rfl, HD6.out, HM6.out, Nat.le_trans hz HZ6.out⟩
                have k0b : (f.kind == 0) = false := by simp [k0]
                by_cases k1 : f.kind = 1
                · have k1b : (f.kind == 1) = true := by simp [k1]
                  have hc := rint_any S g _ _ HDA.out
                  rw [show encFld f = encInt f.n by unfold encFld; rw [if_neg k0, if_pos k1], rInt_enc f.n T HBF.out.1 HBF.out.2] at hc
                  have HC := Lib.hid hc
                  clear k0 k1 hc
                  go_wp2_with fail
                  go_region_law (first
                    | (go_simp
                       go_at_call 64
                       refine HC.out.mono ?_
                       rintro r w6 ⟨rfl, hd6, hm6⟩
                       have hcN := (HBK.out.drew.keep hm6 (by omega)).cell 1
                       have HD6 := Lib.hid hd6
                       have HM6 := Lib.hid ((((HM.out.alloc _).drew).trans' hm6 (fun _ _ h => h) (fun k hk hkg => by have := (HS5.out g (.inr rfl)).1; omega) : Mod Nil w0 w6))
                       have HZ6 := Lib.hid (Nat.le_trans (((Mod.refl Nil wr).alloc _).drew).size hm6.size)
                       clear hd6 hm6))
                  all_goals
                    go_simp
                    go_wp2_with fail
                    go_meet
                    case rel => exact ⟨rfl, HD6.out, HM6.out, Nat.le_trans hz HZ6.out⟩
                have k1b : (f.kind == 1) = false := by simp [k1]
                have hfs2 := HFS.out
                simp only [fldSmall, Bool.and_eq_true, decide_eq_true_eq, List.all_eq_true] at hfs2
                obtain ⟨⟨hs200, hl20⟩, ht100⟩ := hfs2
                have HT100 := Lib.hid ht100
                clear ht100
                by_cases k2 : f.kind = 2
                · have k2b : (f.kind == 2) = true := by simp [k2]
                  have hc := rtext_any S g _ _ HDA.out
                  rw [show encFld f = encText f.s.data.toList by unfold encFld; rw [if_neg k0, if_neg k1, if_pos k2], rText_enc f.s.data.toList T (by have h9 : f.s.data.toList.length = f.s.size := Array.length_toList; omega)] at hc
                  dsimp only at hc
                  rw [str_eta] at hc
                  have HC := Lib.hid hc
                  clear k0 k1 k2 hc
                  go_wp2_with fail
                  go_region_law (first
                    | (go_simp
                       go_at_call 65
                       refine HC.out.mono ?_
                       rintro r w6 ⟨rfl, hd6, hm6⟩
                       have hcN := (HBK.out.drew.keep hm6 (by omega)).cell 2
                       have HD6 := Lib.hid hd6
                       have HM6 := Lib.hid ((((HM.out.alloc _).drew).trans' hm6 (fun _ _ h => h) (fun k hk hkg => by have := (HS5.out g (.inr rfl)).1; omega) : Mod Nil w0 w6))
                       have HZ6 := Lib.hid (Nat.le_trans (((Mod.refl Nil wr).alloc _).drew).size hm6.size)
                       clear hd6 hm6))
                  all_goals
                    go_simp
                    go_wp2_with fail
                    go_meet
                    case rel => exact ⟨rfl, HD6.out, HM6.out, Nat.le_trans hz HZ6.out⟩
                · have k2b : (f.kind == 2) = false := by simp [k2]
                  have hsl : ∀ k, S k → k < (wr.alloc (.cells #[.int .i64 f.kind, .int .i64 f.n, .string f.s, .slice B f.l.length cB] 37)).drew.heap.size := fun k hk => by have := (HS5.out k (.inl hk)).2; have := (((Mod.refl Nil wr).alloc (.cells #[.int .i64 f.kind, .int .i64 f.n, .string f.s, .slice B f.l.length cB] 37)).drew).size; omega
                  have hc := rtexts_any S g _ _ HDA.out hsl
                  rw [show encFld f = encTexts (octs f.l) by unfold encFld; rw [if_neg k0, if_neg k1, if_neg k2], rTexts_enc (octs f.l) T (by rw [octs, List.length_map]; omega) (fun x hx => by
                    obtain ⟨u, hu, rfl⟩ := List.mem_map.1 hx
                    have h8 := HT100.out u hu
                    have h9 : u.data.toList.length = u.size := Array.length_toList
                    omega)] at hc
                  dsimp only at hc
                  rw [octs_sv, show (octs f.l).length = f.l.length by rw [octs, List.length_map]] at hc
                  have HC := Lib.hid hc
                  have hfl9 : f.l.length ≤ 1000000000 := by omega
                  clear k0 k1 k2 hc hsl
                  go_wp2_with fail
                  go_region_law (first
                    | (go_simp
                       go_at_call 83
                       refine HC.out.mono ?_
                       rintro r w6 ⟨v6, rfl, ho6, hd6, hm6⟩
                       obtain ⟨A6, c6, rfl, _, _⟩ := own_slice ho6
                       have hcN := (HBK.out.drew.keep hm6 (by omega)).cell 3
                       have HD6 := Lib.hid hd6
                       have HW6 := Lib.hid (show Mod (fun k => k = g) wr w6 from (((Mod.refl (fun k => k = g) wr).alloc _).drew).trans hm6)
                       have HO6 := Lib.hid ((Rd.of_own ho6).mono (S' := All) (fun _ _ _ => trivial))
                       have HM6 := Lib.hid ((((HM.out.alloc _).drew).trans' hm6 (fun _ _ h => h) (fun k hk hkg => by have := (HS5.out g (.inr rfl)).1; omega) : Mod Nil w0 w6))
                       have HZ6 := Lib.hid (Nat.le_trans (((Mod.refl Nil wr).alloc _).drew).size hm6.size)
                       clear ho6 hd6 hm6)
                    | (go_simp
                       go_at_call 82
                       refine (same_any A6 B f.l.length c6 f.l.length cB f.l f.l _ rfl rfl hfl9 HO6.out ((HRB.out.keep HW6.out (fun k hk hkg => by have := HM0.out.size; have := (HS5.out g (.inr rfl)).1; omega)).mono (fun _ _ _ => trivial))).mono ?_
                       rintro r w7 ⟨rfl, j, rfl⟩
                       have hdt : decide (f.l = f.l) = true := by simp))
                  all_goals
                    go_simp
                    go_wp2_with fail
                    go_meet
                    case rel => exact ⟨rfl, HD6.out.keep0 ((Mod.refl Nil w6).drewN j), HM6.out.drewN j, Nat.le_trans hz HZ6.out⟩
              case rest =>
                obtain ⟨rfl, hd, hm, hz2⟩ := hcut
                have HE := Lib.hid hd
                have HM2 := Lib.hid hm
                clear hd hm
                go_wp2_with fail
                refine (rerr_any S g (T, 0) _ HE.out).mono ?_
                rintro r w6 ⟨rfl, rfl⟩
                go_wp2_with fail
                go_roundw
                case rel => exact ⟨i + 1, by omega, by go_num, hz2, _, HE.out, by rw [HTT.out], HM2.out⟩
                case measure => simp [intOf] <;> omega
            · have HFE := Lib.hid (show (((fs.drop i).map encFld).flatten ++ l1, (0 : Int)) = (l1, 0) by rw [List.drop_of_length_le (by rw [HN.out]; omega)]; rfl)
              rw [HFE.out] at HD
              go_wp2_with fail
              refine (rleft_any S g (l1, 0) _ HD.out).mono ?_
              rintro r w6 ⟨rfl, rfl⟩
              rw [HL1.out]
              go_wp2_with fail
              go_ret
              exact ⟨rfl, HM0.out.trans HM.out⟩
  · have hsm' : fldsSmall fs = false := by simpa using hsm
    have HSM := Lib.hid hsm'
    clear hsm hsm'
    go_enter Try.func14, Try.ntmps14
    go_wp2_with fail
    refine (awake1_any _).mono ?_
    rintro e w0 ⟨rfl, hm0⟩
    have HM0 := Lib.hid hm0
    clear hm0
    go_wp2_with fail
    refine (small_any (fun b => b < w.heap.size) A n c fs _ HN.out (HR.out.keep HM0.out (fun _ _ => id))).mono ?_
    rintro e w1 ⟨rfl, rfl⟩
    rw [HSM.out]
    go_wp2_with fail
    refine (awake1_any _).mono ?_
    rintro e w2 ⟨rfl, hm2⟩
    have HM2 := Lib.hid hm2
    clear hm2
    go_wp2_with fail
    go_ret
    exact ⟨rfl, HM0.out.trans HM2.out⟩

end Go.Proofs.Ytdllafmponmkmaa
