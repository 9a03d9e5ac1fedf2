/- The walk of the law JournalActs. -/
import Derived.Test.YtjmehamkpmimkaaJrnActsP
namespace Go.Proofs.Ytjmehamkpmimkaa
open Go.RowKit

set_option maxHeartbeats 64000000 in
set_option maxRecDepth 100000 in
theorem journalActs_walk (x : Int) (A : Option Addr) (n cap : Nat) (l : List Act4) (w : World) (hl : l.length = n) (hr : Acts4At All w A l) (hrg : ∀ a ∈ l, a.raw.n ≤ 9223372036854775807) :
    Calls Try.prog 4 #[.int .i64 x, .slice A n cap] w fun r w' => r = .returned (.bool true) ∧ Mod Nil w w' := by
  have HR := Lib.hid (show Acts4At (fun b => b < w.heap.size) w A l by
    intro hn
    obtain ⟨b, o, e, _, hb, hf⟩ := hr hn
    refine ⟨b, o, e, hb, hb, fun i a ha => ?_⟩
    obtain ⟨hk, h0, h1, h2, ⟨B, c, h3, h4, h5⟩, K, d, h6, h7, h8⟩ := hf i a ha
    exact ⟨hk, h0, h1, h2, ⟨B, c, h3, h4, h5.mono fun _ h _ => h⟩, K, d, h6, h7, h8.mono fun _ h _ => h⟩)
  have HL := Lib.hid hl
  have HRG := Lib.hid hrg
  clear hr hl hrg
  by_cases hsm : acts4Small 20 l = true
  · have hn40 : n ≤ 20 := by have := acts4Small_len hsm; have := HL.out; omega
    have HSML := Lib.hid (fun k a (ha : l[k]? = some a) => acts4Small_at hsm ha)
    go_enter Try.func4, Try.ntmps4
    go_wp2_with fail
    refine (awake4_any _).mono ?_
    rintro r w1 ⟨rfl, hm1⟩
    have HM1 := Lib.hid hm1
    clear hm1
    go_wp2_with fail
    refine (small4_any (fun b => b < w.heap.size) A n cap 20 20 l _ rfl (by omega) HL.out (HR.out.keep HM1.out (fun _ _ => id))).mono ?_
    rintro r w2 ⟨rfl, rfl⟩
    rw [hsm]
    clear hsm
    go_wp2_with fail
    refine (rest_any x 16 _ (by omega) (by omega)).mono ?_
    rintro r w2 ⟨rfl, rfl⟩
    obtain ⟨q, hq⟩ : ∃ q : Nat, x % 16 = (q : Int) := Int.eq_ofNat_of_zero_le (by omega)
    have hq6 : q < 16 := by omega
    rw [hq]
    clear hq
    go_wp2_with fail
    obtain ⟨N, hN⟩ : ∃ N : Nat, (N : Int) = 1 + q := ⟨1 + q, by omega⟩
    rw [← hN]
    have hN1 : 1 ≤ N := by omega
    have hN16 : N ≤ 16 := by omega
    clear hN hq6
    refine (dskNew_ok N _ hN1 (by omega)).mono ?_
    rintro r w2 ⟨g, F, rfl, hd2, hm2⟩
    have HD2 := Lib.hid hd2
    have HM2 := Lib.hid hm2
    clear hd2 hm2
    go_wp2_with fail
    refine (rdkNew_any N _ (by omega)).mono ?_
    rintro r w3 ⟨g', F', rfl, hd3, hm3⟩
    have HST := Lib.hid (show ActsStand4 w1 g g' N 0 w3 from ⟨F, F', _, ⟨HD2.out.keep0 hm3, by
      obtain ⟨vw, h1, h2, h3, h4, h5, h6⟩ := hd3
      exact ⟨vw, h1, h2, Nat.le_trans HM2.out.size h3, own_base h4 HM2.out.size, h5, h6⟩, fun k hk hk' => by have := (HD2.out.lt k hk).2; have := (hd3.lt k hk').1; omega, HM2.out.trans hm3⟩, by simp, Nat.le_refl _, by simp⟩)
    clear hd3 hm3
    go_wp2_with fail
    refine (Room_any (N : Int) _).mono ?_
    rintro r w4 ⟨rfl, rfl⟩
    go_wp2_with fail
    refine (refRoom4_any (N : Int) _).mono ?_
    rintro r w4 ⟨rfl, rfl⟩
    go_wp2_with fail
    refine (jput_nil none 0 0 _).mono ?_
    rintro r w4 ⟨rfl, rfl⟩
    go_wp2_with fail
    refine (jrecover_nil _).mono ?_
    rintro r w4 ⟨rfl, rfl⟩
    go_wp2_with fail
    go_loopw [9] (fun iv wr => ∃ (i : Nat), i ≤ n ∧ iv = .int .i64 i ∧ ActsStand4 w1 g g' N i wr) (fun v _ => n - (intOf v).toNat)
    case atStart => exact ⟨0, Nat.zero_le _, rfl, HST.out⟩
    case round =>
      obtain ⟨i, hi', rfl, ⟨F, F', s, hb, hfe⟩⟩ := hrel
      have HB := Lib.hid hb
      have HFE := Lib.hid hfe
      clear hb hfe
      by_cases hlt : i < n
      · obtain ⟨⟨kind, raw⟩, ha⟩ : ∃ a, l[i]? = some a := ⟨_, List.getElem?_eq_getElem (by rw [HL.out]; exact hlt)⟩
        obtain ⟨a, hae⟩ : ∃ a : Act4, a = ⟨kind, raw⟩ := ⟨_, rfl⟩
        rw [← hae] at ha
        clear hae
        obtain ⟨b, o, rfl, _, hbl, hat⟩ := (HR.out.keep (HM1.out.trans HB.out.2.2.2) (fun _ _ => id)) (by rw [HL.out]; omega)
        obtain ⟨hk, h0, h1, h2, ⟨B, cB, h3, hl3, hr3⟩, K, cK, h4, hl4, hr4⟩ := hat i a ha
        have HR3 := Lib.hid hr3
        have HR4 := Lib.hid hr4
        have HAN := Lib.hid (HRG.out a (List.mem_of_getElem? ha))
        have hbn := (HSML.out i a ha).1
        have HBA := Lib.hid (Blk.new wr 39 #[.int .i64 a.raw.kind, .int .i64 a.raw.n, .int .i64 a.raw.m, .slice B a.raw.b.length cB, .slice K a.raw.keep.length cK])
        rw [Nat.add_assoc] at h1 h2 h3 h4
        clear hat ha hr3 hr4
        go_upto_block 2 with (fail)
        obtain ⟨w5, hw5⟩ : ∃ w5, w5 = wr.alloc (.cells #[.int .i64 a.raw.kind, .int .i64 a.raw.n, .int .i64 a.raw.m, .slice B a.raw.b.length cB, .slice K a.raw.keep.length cK] 39) := ⟨_, rfl⟩
        have HM5 := Lib.hid (show Mod Nil wr w5 from hw5 ▸ (Mod.refl Nil wr).alloc _)
        rw [← hw5] at HBA ⊢
        have HWA := Lib.hid (show ∀ cs : Array Value, w5.heap.size = wr.heap.size + 1 by intro _; rw [hw5]; simp)
        have HBK := Lib.hid HBA.out
        have hc0 := HBA.out.cell 0
        have hc1 := HBA.out.cell 1
        have hc2 := HBA.out.cell 2
        have hc3 := HBA.out.cell 3
        have hc4 := HBA.out.cell 4
        have HB5 := Lib.hid (HB.out.keep0 HM5.out)
        have HR5 := Lib.hid (HR3.out.keep0 HM5.out)
        have HRK := Lib.hid (HR4.out.keep0 HM5.out)
        have hol := octets_few hbn
        have HLT := Lib.hid (show ∀ k, (F k ∨ F' k) → w.heap.size ≤ k ∧ k < wr.heap.size from fun k hk => by have := HM1.out.size; rcases hk with hk | hk; (have := HB.out.1.lt k hk; omega); (have := HB.out.2.1.lt k hk; omega))
        have HSF := Lib.hid (show ∀ k, k < w.heap.size → ¬ (F k ∨ F' k) from fun k hk hF => by have := HLT.out k hF; omega)
        have HB5S := Lib.hid (show w1.heap.size ≤ w5.heap.size from HB5.out.2.2.2.size)
        clear hw5 HBA hk h0 h1 h2 h3 h4
        go_cut [11, 12, 13] (fun xv yv _ wx => ∃ ev : Int, xv = .int .i64 ev ∧ yv = .int .i64 ev ∧ ActsStand4 w1 g g' N (i + 1) wx)
        case first =>
          by_cases k0 : a.kind = 0
          · have kb : (a.kind == 0) = true := by simp [k0]
            clear k0
            have HFW := Lib.hid (HFE.out.grow (put_few a.raw.b s HB5.out.1.szd.2.2.2 (HFE.out.area hN16)).2)
            have HBD := Lib.hid (HB5.out.keep0 ((Mod.refl Nil w5).drew))
            have HRD := Lib.hid (HR3.out.keep0 (HM5.out.drew))
            have kc0 := conv_bytes (l := a.raw.b) (n := a.raw.b.length) HRD.out rfl cB
            have HS5 := Lib.hid (show w1.heap.size ≤ w5.drew.heap.size from HB5S.out)
            obtain ⟨ev, hev⟩ : ∃ ev, ev = (jPut a.raw.b s).2 := ⟨_, rfl⟩
            obtain ⟨s2, hs2⟩ : ∃ s2, s2 = (jPut a.raw.b s).1 := ⟨_, rfl⟩
            have HC1 := Lib.hid (jput_any w1.heap.size g F s B a.raw.b.length cB a.raw.b w5.drew HBD.out.1 HS5.out rfl (HRD.out.mono (fun _ _ _ => trivial)) (by have := HFE.out.2.1; omega) HFE.out.2.2)
            have HC2 := Lib.hid (fun w6 (hd : RdkAt w1.heap.size w6 g' F' s) (hb : w1.heap.size ≤ w6.heap.size) => rput_any w1.heap.size g' F' s a.raw.b w6 hd hb HB5.out.1.szd (by have := HFE.out.2.1; omega) HFE.out.2.2)
            rw [← hev, ← hs2] at HC1 HC2
            rw [← hs2] at HFW
            clear hev hs2
            go_wp2_with fail
            go_region_law (first
              | (go_simp
                 go_at_call 16
                 refine HC1.out.mono ?_
                 rintro r w6 ⟨rfl, F6, hd6, hm6, hF6⟩
                 have hc3 := (HBK.out.drew.keep hm6 (fun hk => by have := HLT.out _ (.inl hk); omega)).cell 3
                 have HRD6 := Lib.hid (HRD.out.keep hm6 (fun k hk hF => HSF.out k hk (.inl hF)))
                 have kc6 := conv_bytes (l := a.raw.b) (n := a.raw.b.length) HRD6.out rfl cB
                 have HD6 := Lib.hid hd6
                 have HX6 := Lib.hid (HBD.out.disk hd6 hm6 hF6)
                 clear hd6 hm6 hF6)
              | (go_simp
                 go_at_call 18
                 refine (HC2.out _ HX6.out.1 HX6.out.2.2.size).mono ?_
                 rintro r w7 ⟨rfl, F7, hd7, hm7, hF7⟩
                 have HBT := Lib.hid (show ActsStand4 w1 g g' N (i + 1) w7 from ⟨_, _, _, both_ref HD6.out HX6.out.1 HX6.out.2.1 HX6.out.2.2 hd7 hm7 hF7, HFW.out⟩)
                 clear hd7 hm7 hF7))
            all_goals
              go_simp
              go_wp2_with fail
              go_meet
              case rel => exact ⟨ev, rfl, rfl, HBT.out⟩
          by_cases k1 : a.kind = 1
          · have kb0 : (a.kind == 0) = false := by simp [k0]
            have kb : (a.kind == 1) = true := by simp [k1]
            clear k0 k1
            have HFW := Lib.hid (HFE.out.grow (recover_few s HB5.out.1.szd.2.2.2 (HFE.out.area hN16)).2)
            obtain ⟨ev, hev⟩ : ∃ ev, ev = (jRecover s).2 := ⟨_, rfl⟩
            obtain ⟨s2, hs2⟩ : ∃ s2, s2 = (jRecover s).1 := ⟨_, rfl⟩
            have HC1 := Lib.hid (jrecover_any w1.heap.size g F s w5 HB5.out.1 HB5S.out (by have := HFE.out.2.1; omega) HFE.out.2.2)
            have HC2 := Lib.hid (fun w6 (hd : RdkAt w1.heap.size w6 g' F' s) (hb : w1.heap.size ≤ w6.heap.size) => rrecover_any w1.heap.size g' F' s w6 hd hb HB5.out.1.szd (by have := HFE.out.2.1; omega) HFE.out.2.2)
            rw [← hev, ← hs2] at HC1 HC2
            rw [← hs2] at HFW
            clear hev hs2
            go_wp2_with fail
            refine HC1.out.mono ?_
            rintro r w6 ⟨rfl, F6, hd6, hm6, hF6⟩
            have HD6 := Lib.hid hd6
            have HX6 := Lib.hid (HB5.out.disk hd6 hm6 hF6)
            clear hd6 hm6 hF6
            go_wp2_with fail
            refine (HC2.out _ HX6.out.1 HX6.out.2.2.size).mono ?_
            rintro r w7 ⟨rfl, F7, hd7, hm7, hF7⟩
            have HBT := Lib.hid (show ActsStand4 w1 g g' N (i + 1) w7 from ⟨_, _, _, both_ref HD6.out HX6.out.1 HX6.out.2.1 HX6.out.2.2 hd7 hm7 hF7, HFW.out⟩)
            clear hd7 hm7 hF7
            go_wp2_with fail
            go_meet
            case rel => exact ⟨ev, rfl, rfl, HBT.out⟩
          by_cases k2 : a.kind = 2
          · have kb0 : (a.kind == 0) = false := by simp [k0]
            have kb1 : (a.kind == 1) = false := by simp [k1]
            have kb : (a.kind == 2) = true := by simp [k2]
            clear k0 k1 k2
            go_wp2_with fail
            refine (dskPower_any w1.heap.size g F s a.raw.n _ HB5.out.1).mono ?_
            rintro r w6 ⟨rfl, F6, hd6, hm6, hF6⟩
            have hc1 := (HBK.out.keep hm6 (fun hk => by have := HLT.out _ (.inl hk); omega)).cell 1
            have HD6 := Lib.hid hd6
            have HX6 := Lib.hid (HB5.out.disk hd6 hm6 hF6)
            clear hd6 hm6 hF6
            go_wp2_with fail
            refine (rdkPower_any w1.heap.size g' F' s a.raw.n _ HX6.out.1).mono ?_
            rintro r w7 ⟨rfl, F7, hd7, hm7, hF7⟩
            have HBT := Lib.hid (both_ref HD6.out HX6.out.1 HX6.out.2.1 HX6.out.2.2 hd7 hm7 hF7)
            clear hd7 hm7 hF7
            go_wp2_with fail
            go_meet
            case rel => exact ⟨0, rfl, rfl, F6, F7, _, HBT.out, HFE.out.1, HFE.out.next.2.1, by have := HAN.out; show max a.raw.n (-1) ≤ _; omega⟩
          by_cases k3 : a.kind = 3
          · have kb0 : (a.kind == 0) = false := by simp [k0]
            have kb1 : (a.kind == 1) = false := by simp [k1]
            have kb2 : (a.kind == 2) = false := by simp [k2]
            have kb : (a.kind == 3) = true := by simp [k3]
            clear k0 k1 k2 k3
            go_wp2_with fail
            refine (dskCrash_any w1.heap.size g F s K a.raw.keep.length cK a.raw.keep a.raw.n a.raw.m (fun k => k < w.heap.size) _ HB5.out.1 (by have := HFE.out.2.1; omega) rfl hl4 HRK.out (fun k hk hF => HSF.out k hk (.inl hF))).mono ?_
            rintro r w6 ⟨rfl, F6, hd6, hm6, hF6⟩
            have hb6 := HBK.out.keep hm6 (fun hk => by have := HLT.out _ (.inl hk); omega)
            have hc1 := hb6.cell 1
            have hc2 := hb6.cell 2
            have hc4 := hb6.cell 4
            have HRK6 := Lib.hid (HRK.out.keep hm6 (fun k hk hF => HSF.out k hk (.inl hF)))
            have HD6 := Lib.hid hd6
            have HX6 := Lib.hid (HB5.out.disk hd6 hm6 hF6)
            clear hd6 hm6 hF6 hb6
            go_wp2_with fail
            refine (rdkCrash_any w1.heap.size g' F' s K a.raw.keep.length cK a.raw.keep a.raw.n a.raw.m (fun k => k < w.heap.size) _ HX6.out.1 (by have := HFE.out.2.1; omega) rfl HRK6.out (fun k hk hF => HSF.out k hk (.inr hF))).mono ?_
            rintro r w7 ⟨rfl, F7, hd7, hm7, hF7⟩
            have HBT := Lib.hid (both_ref HD6.out HX6.out.1 HX6.out.2.1 HX6.out.2.2 hd7 hm7 hF7)
            clear hd7 hm7 hF7
            go_wp2_with fail
            go_meet
            case rel =>
              refine ⟨0, rfl, rfl, F6, F7, _, HBT.out, ?_, Nat.zero_le _, by show (-1 : Int) ≤ _; omega⟩
              obtain ⟨vw, _, hrd⟩ := HB5.out.2.1
              show (crTo _ _ _ _ _ _).length = _
              rw [crTo_length (fun y hy => (hrd.fit y hy).1)]
              exact HFE.out.1
          by_cases k4 : a.kind = 4
          · have kb0 : (a.kind == 0) = false := by simp [k0]
            have kb1 : (a.kind == 1) = false := by simp [k1]
            have kb2 : (a.kind == 2) = false := by simp [k2]
            have kb3 : (a.kind == 3) = false := by simp [k3]
            have kb : (a.kind == 4) = true := by simp [k4]
            clear k0 k1 k2 k3 k4
            have HFW := Lib.hid (HFE.out.grow (format_few a.raw.b s HB5.out.1.szd.2.2.2 (HFE.out.area hN16)).2)
            have HBD := Lib.hid (HB5.out.keep0 ((Mod.refl Nil w5).drew))
            have HRD := Lib.hid (HR3.out.keep0 (HM5.out.drew))
            have kc0 := conv_bytes (l := a.raw.b) (n := a.raw.b.length) HRD.out rfl cB
            have HS5 := Lib.hid (show w1.heap.size ≤ w5.drew.heap.size from HB5S.out)
            obtain ⟨ev, hev⟩ : ∃ ev, ev = (jFormat a.raw.b s).2 := ⟨_, rfl⟩
            obtain ⟨s2, hs2⟩ : ∃ s2, s2 = (jFormat a.raw.b s).1 := ⟨_, rfl⟩
            have HC1 := Lib.hid (jformat_any w1.heap.size g F s B a.raw.b.length cB a.raw.b w5.drew HBD.out.1 HS5.out rfl (HRD.out.mono (fun _ _ _ => trivial)) (by have := HFE.out.2.1; omega) HFE.out.2.2)
            have HC2 := Lib.hid (fun w6 (hd : RdkAt w1.heap.size w6 g' F' s) (hb : w1.heap.size ≤ w6.heap.size) => rformat_any w1.heap.size g' F' s a.raw.b w6 hd hb HB5.out.1.szd (by have := HFE.out.2.1; omega) HFE.out.2.2)
            rw [← hev, ← hs2] at HC1 HC2
            rw [← hs2] at HFW
            clear hev hs2
            go_wp2_with fail
            go_region_law (first
              | (go_simp
                 go_at_call 24
                 refine HC1.out.mono ?_
                 rintro r w6 ⟨rfl, F6, hd6, hm6, hF6⟩
                 have hc3 := (HBK.out.drew.keep hm6 (fun hk => by have := HLT.out _ (.inl hk); omega)).cell 3
                 have HRD6 := Lib.hid (HRD.out.keep hm6 (fun k hk hF => HSF.out k hk (.inl hF)))
                 have kc6 := conv_bytes (l := a.raw.b) (n := a.raw.b.length) HRD6.out rfl cB
                 have HD6 := Lib.hid hd6
                 have HX6 := Lib.hid (HBD.out.disk hd6 hm6 hF6)
                 clear hd6 hm6 hF6)
              | (go_simp
                 go_at_call 25
                 refine (HC2.out _ HX6.out.1 HX6.out.2.2.size).mono ?_
                 rintro r w7 ⟨rfl, F7, hd7, hm7, hF7⟩
                 have HBT := Lib.hid (show ActsStand4 w1 g g' N (i + 1) w7 from ⟨_, _, _, both_ref HD6.out HX6.out.1 HX6.out.2.1 HX6.out.2.2 hd7 hm7 hF7, HFW.out⟩)
                 clear hd7 hm7 hF7))
            all_goals
              go_simp
              go_wp2_with fail
              go_meet
              case rel => exact ⟨ev, rfl, rfl, HBT.out⟩
          · have kb0 : (a.kind == 0) = false := by simp [k0]
            have kb1 : (a.kind == 1) = false := by simp [k1]
            have kb2 : (a.kind == 2) = false := by simp [k2]
            have kb3 : (a.kind == 3) = false := by simp [k3]
            have kb4 : (a.kind == 4) = false := by simp [k4]
            clear k0 k1 k2 k3 k4
            have HLK := Lib.hid (show ∀ k, k < w.heap.size → k < wr.heap.size from fun k hk => by have := HM1.out.size; have := HB.out.2.2.2.size; omega)
            go_wp2_with fail
            refine (actOctets_any (fun k => k < w.heap.size) a.raw B K cB cK w5 hl3 HR5.out (fun k hk => by have := HLK.out k hk; have := HM5.out.size; omega)).mono ?_
            rintro r w6 ⟨A6, c6, rfl, hr6, hm6⟩
            have hb6 := HBK.out.keep hm6 id
            have hc1 := hb6.cell 1
            have HBK6 := Lib.hid hb6
            have HB6 := Lib.hid (HB5.out.keep0 hm6)
            have HB6S := Lib.hid (Nat.le_trans HB5S.out hm6.size)
            have HR6 := Lib.hid hr6
            have HSF6 := Lib.hid (show ∀ k, (k < w.heap.size ∨ w5.heap.size ≤ k) → ¬ (F k ∨ F' k) from fun k hk hF => by have := HLT.out k hF; have := HM5.out.size; omega)
            clear hr6 hm6 hb6
            have HFW := Lib.hid (HFE.out.grow ((write_grows s a.raw.n a.raw.octets).mono (by omega)))
            have HBD := Lib.hid (HB6.out.keep0 ((Mod.refl Nil w6).drew))
            have HRD := Lib.hid (HR6.out.keep0 ((Mod.refl Nil w6).drew))
            have kc0 := conv_bytes (l := a.raw.octets) (n := a.raw.octets.length) HRD.out rfl c6
            have HS6 := Lib.hid (show w1.heap.size ≤ w6.drew.heap.size from HB6S.out)
            go_wp2_with fail
            go_region_law (first
              | (go_simp
                 go_at_call 27
                 refine (dskWrite_any w1.heap.size g F s a.raw.n A6 a.raw.octets.length c6 _ a.raw.octets _ HBD.out.1 HS6.out (by have := HFE.out.2.1; omega) HFE.out.2.2 rfl HRD.out (fun k hk hF => HSF6.out k hk (.inl hF))).mono ?_
                 rintro r w7 ⟨rfl, F6, hd6, hm6, hF6⟩
                 have hc1 := (HBK6.out.drew.keep hm6 (fun hk => by have := HLT.out _ (.inl hk); omega)).cell 1
                 have HRD6 := Lib.hid (HRD.out.keep hm6 (fun k hk hF => HSF6.out k hk (.inl hF)))
                 have kc6 := conv_bytes (l := a.raw.octets) (n := a.raw.octets.length) HRD6.out rfl c6
                 have HD6 := Lib.hid hd6
                 have HX6 := Lib.hid (HBD.out.disk hd6 hm6 hF6)
                 clear hd6 hm6 hF6)
              | (go_simp
                 go_at_call 28
                 refine (rdkWrite_any w1.heap.size g' F' s a.raw.n a.raw.octets _ HX6.out.1 HX6.out.2.2.size (by have := HFE.out.2.1; omega) HFE.out.2.2 (by omega)).mono ?_
                 rintro r w8 ⟨rfl, F7, hd7, hm7, hF7⟩
                 have HBT := Lib.hid (show ActsStand4 w1 g g' N (i + 1) w8 from ⟨_, _, _, both_ref HD6.out HX6.out.1 HX6.out.2.1 HX6.out.2.2 hd7 hm7 hF7, HFW.out⟩)
                 clear hd7 hm7 hF7))
            all_goals
              go_simp
              go_wp2_with fail
              go_meet
              case rel => exact ⟨_, rfl, rfl, HBT.out⟩
        case rest =>
          obtain ⟨ev, rfl, rfl, hcs⟩ := hcut
          have HCUT := Lib.hid hcs
          clear hcs
          obtain ⟨Fx, Fy, sx, hb, hl⟩ := HCUT.out
          have HBX := Lib.hid hb
          have HFX := Lib.hid hl
          clear hb hl
          go_wp2_with fail
          refine (jget_any w1.heap.size g Fx sx _ HBX.out.1 (by have := HFX.out.2.1; omega)).mono ?_
          rintro r w7 ⟨A7, n7, c7, rfl, ho7, hm7⟩
          have HO7 := Lib.hid (Rd.of_own ho7)
          have HN7 := Lib.hid (show (jGet sx).1.length = n7 by have := ho7.1; simpa using this)
          have HB7 := Lib.hid (HBX.out.keep0 hm7)
          clear ho7 hm7
          go_wp2_with fail
          refine (rjget_any w1.heap.size g' Fy sx _ HB7.out.2.1 HB7.out.1.szd (by have := HFX.out.2.1; omega)).mono ?_
          rintro r w8 ⟨rfl, hm8⟩
          have HB8 := Lib.hid (HB7.out.keep0 hm8)
          have HR8 := Lib.hid (HO7.out.keep0 hm8)
          clear hm8
          obtain ⟨tx, htx⟩ : ∃ tx, tx = (jGet sx).1 := ⟨_, rfl⟩
          obtain ⟨ex, hex⟩ : ∃ ex, ex = (jGet sx).2 := ⟨_, rfl⟩
          rw [← htx] at HN7 HR8 ⊢
          rw [← hex]
          clear htx hex HO7
          go_wp2_with fail
          refine wp_flow2 (by kernel_rfl) (R := Mod Nil)
            [(148, .is (.int .i64 ev)), (149, .is (.int .i64 ev)), (150, .is (.bool false)), (151, .is (.bool false)), (152, .is (.pointer (some ⟨g, 0, none⟩))), (153, ⟨IsSl sx.S.length (sx.img.map bv), fun _ _ _ h k => h.keep0 k⟩), (154, .is (.string (str sx.img))), (155, .is (.pointer (some ⟨g', 0, none⟩))), (156, .is (.string (str sx.img))), (157, .is (.bool false)), (158, .is (.bool false)), (159, .is (.bool false)),
            (160, .is (.int .i64 ex)), (161, .is (.int .i64 ex)), (162, .is (.bool false)), (163, .is (.bool false)), (164, .is (.bool false)),
            (165, .is (.slice A7 n7 c7)), (166, .is (.string (str tx))), (167, .is (.string (str tx))), (168, .is (.bool false)), (169, .is (.bool false))]
            (by kernel_rfl) (Mod.refl Nil) mod_trans ?fops ?ffin
          case fops =>
            refine ⟨?_, ?_, ?_, ?_, ?_, ?_, ?_, ?_, ?_, ?_, ?_, ?_, ?_, ?_, ?_, ?_, ?_, ?_, ?_, ?_, ?_, ?_, trivial⟩
            all_goals intro a wa hR hk
            all_goals simp [Oper.looksAt, Op.operands, Call.operands, Seen, slot, St.is, Act.eval] at hk
            all_goals try refine ⟨fun _ => ?_, fun hg => (hg (by simp [Act.eval, hk])).elim⟩
            all_goals have hM4 := (Mod.refl Nil w8).drew.trans hR
            all_goals have kb7 := conv_bytes (HR8.out.keep0 hM4) HN7.out c7
            all_goals try (go_wp2_with fail; exact leaves_of (Mod.refl _ _) rfl)
            · go_wp2_with fail
              refine (dskImage_any _ g Fx sx wa (HB8.out.1.keep0 hM4) (by have := HFX.out.2.1; omega)).mono ?_
              rintro r w5 ⟨v5, rfl, ho5, hm5⟩
              exact leaves_of hm5 (IsSl.of_own ho5)
            · obtain ⟨⟨A', c', hg, _, _, hln, hr⟩, hgd⟩ := hk
              rw [List.length_map] at hln
              have kb := conv_bytes hr hln c'
              clear hr hln
              go_wp2_with fail
              exact leaves_of (Mod.refl _ _) rfl
            · go_wp2_with fail
              refine (rdkImage_any _ g' Fy sx wa (HB8.out.2.1.keep0 hM4) (by have := HFX.out.2.1; omega)).mono ?_
              rintro r w5 ⟨rfl, hm5⟩
              exact leaves_of hm5 rfl
          case ffin =>
            intro w9 vs hR hV
            simp [HoldsAll, St.is] at hV
            obtain ⟨e148, e149, e150, e151, e152, ⟨A2, c2, e153, _⟩, e154, e155, e156, e157, e158, e159, e160, e161, e162, e163, e164, e165, e166, e167, e168, e169⟩ := hV
            simp only [List.map_cons, List.map_nil, List.foldl_cons, List.foldl_nil, Act.put, e148, e149, e150, e151, e152, e153, e154, e155, e156, e157, e158, e159, e160, e161, e162, e163, e164, e165, e166, e167, e168, e169, List.setIfInBounds_toArray, List.set_cons_succ, List.set_cons_zero]
            clear e148 e149 e150 e151 e152 e153 e154 e155 e156 e157 e158 e159 e160 e161 e162 e163 e164 e165 e166 e167 e168 e169
            have HF := Lib.hid (show ActsStand4 w1 g g' N (i + 1) w9 from ⟨Fx, Fy, sx, HB8.out.keep0 ((Mod.refl Nil w8).drew.trans hR), HFX.out⟩)
            clear hR
            go_wp2_with fail
            go_roundw
            case rel => exact ⟨i + 1, by omega, by go_num, HF.out⟩
            case measure => simp [intOf] <;> omega
      · go_wp2_with fail
        go_ret
        exact ⟨rfl, HM1.out.trans HB.out.2.2.2⟩
  · have hsm' : acts4Small 20 l = false := by simpa using hsm
    go_enter Try.func4, Try.ntmps4
    go_wp2_with fail
    refine (awake4_any _).mono ?_
    rintro r w1 ⟨rfl, hm1⟩
    have HM1 := Lib.hid hm1
    clear hm1
    go_wp2_with fail
    refine (small4_any (fun b => b < w.heap.size) A n cap 20 20 l _ rfl (by omega) HL.out (HR.out.keep HM1.out (fun _ _ => id))).mono ?_
    rintro r w2 ⟨rfl, rfl⟩
    rw [hsm']
    clear hsm hsm'
    go_wp2_with fail
    refine (awake4_any _).mono ?_
    rintro r w3 ⟨rfl, hm3⟩
    have HM3 := Lib.hid (HM1.out.trans hm3)
    clear hm3
    go_wp2_with fail
    go_ret
    exact ⟨rfl, HM3.out⟩
end Go.Proofs.Ytjmehamkpmimkaa
