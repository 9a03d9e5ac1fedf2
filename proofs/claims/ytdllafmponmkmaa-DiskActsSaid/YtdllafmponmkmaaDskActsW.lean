/- The walk of the law DiskActs. -/
import Derived.Test.YtdllafmponmkmaaDskSureW
import Derived.Test.YtdllafmponmkmaaRdkC
namespace Go.Proofs.Ytdllafmponmkmaa
open Go.RowKit

theorem spend_S (s : DSt) : s.spend.S = s.S := by unfold DSt.spend; split <;> rfl
theorem spend_ws (s : DSt) : s.spend.ws = s.ws := by unfold DSt.spend; split <;> rfl
theorem spend_left (s : DSt) : s.spend.left ≤ s.left := by
  unfold DSt.spend; split
  · show s.left - 1 ≤ s.left; omega
  · exact Int.le_refl _
theorem write_small (s : DSt) (n : Int) (b : List UInt8) : (s.write n b).1.S = s.S ∧ (s.write n b).1.left ≤ s.left ∧ (s.write n b).1.ws.length ≤ s.ws.length + 1 := by
  unfold DSt.write
  split
  · split
    · refine ⟨spend_S s, spend_left s, ?_⟩
      show (s.spend.ws ++ [_]).length ≤ _
      rw [spend_ws, List.length_append]
      exact Nat.le_refl _
    · exact ⟨rfl, Int.le_refl _, Nat.le_succ _⟩
  · exact ⟨rfl, Int.le_refl _, Nat.le_succ _⟩

/-- Both disks, with one state. -/
def Both (w0 : World) (g g' : Nat) (F F' : Nat → Prop) (s : DSt) (wr : World) : Prop :=
  DskAt w0.heap.size wr g F s ∧ RdkAt w0.heap.size wr g' F' s ∧ (∀ k, F k → ¬ F' k) ∧ Mod Nil w0 wr

theorem Both.disk {w0 wr w1 : World} {g g' : Nat} {F F' F1 : Nat → Prop} {s s1 : DSt} (h : Both w0 g g' F F' s wr) (hd : DskAt w0.heap.size w1 g F1 s1) (hm : Mod F wr w1) (hF : ∀ k, F1 k → F k ∨ wr.heap.size ≤ k) :
    RdkAt w0.heap.size w1 g' F' s ∧ (∀ k, F1 k → ¬ F' k) ∧ Mod Nil w0 w1 :=
  ⟨h.2.1.keep hm (fun k hk hkF => h.2.2.1 k hkF hk), fun k hk hk' => (hF k hk).elim (fun h' => h.2.2.1 k h' hk') (fun h' => by have := (h.2.1.lt k hk').2; omega), h.2.2.2.disk h.1 hm (Nat.le_refl _)⟩

theorem both_ref {w0 w1 w2 : World} {g g' : Nat} {F1 F' F2 : Nat → Prop} {s s2 : DSt} (hd : DskAt w0.heap.size w1 g F1 s2) (hr : RdkAt w0.heap.size w1 g' F' s) (hFF : ∀ k, F1 k → ¬ F' k) (hm0 : Mod Nil w0 w1) (hd2 : RdkAt w0.heap.size w2 g' F2 s2) (hm : Mod F' w1 w2) (hF : ∀ k, F2 k → F' k ∨ w1.heap.size ≤ k) :
    Both w0 g g' F1 F2 s2 w2 :=
  ⟨hd.keep hm (fun k hk => hFF k hk), hd2, fun k hk hk' => (hF k hk').elim (fun h' => hFF k hk h') (fun h' => by have := (hd.lt k hk).2; omega), hm0.trans' hm (fun _ _ h => h) (fun k hk hF => absurd hk (by have := (hr.lt k hF).1; omega))⟩

theorem both_dsk {w0 w1 w2 : World} {g g' : Nat} {F F1' F2 : Nat → Prop} {s s2 : DSt} (hd : DskAt w0.heap.size w1 g F s) (hr : RdkAt w0.heap.size w1 g' F1' s2) (hFF : ∀ k, F k → ¬ F1' k) (hm0 : Mod Nil w0 w1) (hd2 : DskAt w0.heap.size w2 g F2 s2) (hm : Mod F w1 w2) (hF : ∀ k, F2 k → F k ∨ w1.heap.size ≤ k) :
    Both w0 g g' F2 F1' s2 w2 :=
  ⟨hd2, hr.keep hm (fun k hk hkF => hFF k hkF hk), fun k hk hk' => (hF k hk).elim (fun h' => hFF k h' hk') (fun h' => by have := (hr.lt k hk').2; omega), hm0.disk hd hm (Nat.le_refl _)⟩

theorem Both.ref {w0 wr w1 : World} {g g' : Nat} {F F' F1 : Nat → Prop} {s s1 : DSt} (h : Both w0 g g' F F' s wr) (hd : RdkAt w0.heap.size w1 g' F1 s1) (hm : Mod F' wr w1) (hF : ∀ k, F1 k → F' k ∨ wr.heap.size ≤ k) :
    DskAt w0.heap.size w1 g F s ∧ (∀ k, F k → ¬ F1 k) ∧ Mod Nil w0 w1 :=
  ⟨h.1.keep hm (fun k hk hkF => h.2.2.1 k hk hkF), fun k hk hk' => (hF k hk').elim (fun h' => h.2.2.1 k hk h') (fun h' => by have := (h.1.lt k hk).2; omega), h.2.2.2.trans' hm (fun _ _ h => h) (fun k hk hF => absurd hk (by have := (h.2.1.lt k hF).1; omega))⟩

theorem Both.keep0 {w0 wr w1 : World} {g g' : Nat} {F F' : Nat → Prop} {s : DSt} (h : Both w0 g g' F F' s wr) (hm : Mod Nil wr w1) : Both w0 g g' F F' s w1 :=
  ⟨h.1.keep0 hm, h.2.1.keep0 hm, h.2.2.1, h.2.2.2.trans hm⟩

theorem octets_small {a : Act3} (h : a.b.length ≤ 100) : a.octets.length ≤ 100 := by
  unfold Act3.octets
  split
  · simp
  · exact h

theorem sync_small (s : DSt) (h : s.img.length = s.S.length) : (if s.on = true then (⟨s.img, [], s.spend.left⟩ : DSt) else s).S.length = s.S.length ∧ (if s.on = true then (⟨s.img, [], s.spend.left⟩ : DSt) else s).ws.length ≤ s.ws.length ∧ (if s.on = true then (⟨s.img, [], s.spend.left⟩ : DSt) else s).left ≤ s.left := by
  split
  · exact ⟨h, Nat.zero_le _, spend_left s⟩
  · exact ⟨rfl, Nat.le_refl _, Int.le_refl _⟩

/-- Where the law DiskActs stands behind i acts. -/
def ActsStand (w0 : World) (g g' N i : Nat) (wr : World) : Prop := ∃ F F' s, Both w0 g g' F F' s wr ∧ s.S.length = 64 * N ∧ s.ws.length ≤ i ∧ s.left ≤ 9223372036854775807

set_option maxHeartbeats 64000000 in
set_option maxRecDepth 100000 in
theorem diskActs_walk (x : Int) (A : Option Addr) (n cap : Nat) (l : List Act3) (w : World) (hl : l.length = n) (hr : ActsAt All w A l) (hrg : ∀ a ∈ l, a.n ≤ 9223372036854775807) :
    Calls Try.prog 10 #[.int .i64 x, .slice A n cap] w fun r w' => r = .returned (.bool true) ∧ Mod Nil w w' := by
  have HR := Lib.hid (show ActsAt (fun b => b < w.heap.size) w A l by
    intro hn
    obtain ⟨b, o, e, _, hb, hf⟩ := hr hn
    refine ⟨b, o, e, hb, hb, fun i a ha => ?_⟩
    obtain ⟨h0, h1, h2, ⟨B, c, h3, h4, h5⟩, K, d, h6, h7, h8⟩ := hf i a ha
    exact ⟨h0, h1, h2, ⟨B, c, h3, h4, h5.mono fun _ h _ => h⟩, K, d, h6, h7, h8.mono fun _ h _ => h⟩)
  have HL := Lib.hid hl
  have HRG := Lib.hid hrg
  clear hr hl hrg
  by_cases hsm : actsSmall l = true
  · have hn40 : n ≤ 40 := by unfold actsSmall at hsm; simp at hsm; have := HL.out; omega
    have HSML := Lib.hid (show ∀ a ∈ l, a.b.length ≤ 100 by intro a ha; unfold actsSmall at hsm; simp at hsm; have := hsm.2 a ha; unfold actSmall at this; simp at this; exact this.1)
    go_enter Try.func10, Try.ntmps10
    go_wp2_with fail
    refine (awake3_any _).mono ?_
    rintro r w1 ⟨rfl, hm1⟩
    have HM1 := Lib.hid hm1
    clear hm1
    go_wp2_with fail
    refine (small3_any (fun b => b < w.heap.size) A n cap l _ HL.out (HR.out.keep HM1.out (fun _ _ => id))).mono ?_
    rintro r w2 ⟨rfl, rfl⟩
    rw [hsm]
    clear hsm
    go_wp2_with fail
    refine (rest_any x 6 _ (by omega) (by omega)).mono ?_
    rintro r w2 ⟨rfl, rfl⟩
    obtain ⟨q, hq⟩ : ∃ q : Nat, x % 6 = (q : Int) := Int.eq_ofNat_of_zero_le (by omega)
    have hq6 : q < 6 := by omega
    rw [hq]
    clear hq
    go_wp2_with fail
    obtain ⟨N, hN⟩ : ∃ N : Nat, (N : Int) = 1 + q := ⟨1 + q, by omega⟩
    rw [← hN]
    have hN1 : 1 ≤ N := by omega
    have hN6 : N ≤ 6 := by omega
    clear hN hq6
    refine (dskNew_ok N _ hN1 (by omega)).mono ?_
    rintro r w2 ⟨g, F, rfl, hd2, hm2⟩
    have HD2 := Lib.hid hd2
    have HM2 := Lib.hid hm2
    clear hd2 hm2
    go_wp2_with fail
    refine (rdkNew_any N _ (by omega)).mono ?_
    rintro r w3 ⟨g', F', rfl, hd3, hm3⟩
    have HST := Lib.hid (show ActsStand w1 g g' N 0 w3 from ⟨F, F', _, ⟨HD2.out.keep0 hm3, by
      obtain ⟨vw, h1, h2, h3, h4, h5, h6⟩ := hd3
      exact ⟨vw, h1, h2, Nat.le_trans HM2.out.size h3, own_base h4 HM2.out.size, h5, h6⟩, fun k hk hk' => by have := (HD2.out.lt k hk).2; have := (hd3.lt k hk').1; omega, HM2.out.trans hm3⟩, by simp, Nat.le_refl _, by simp⟩)
    clear hd3 hm3
    go_wp2_with fail
    go_loopw [9] (fun iv wr => ∃ (i : Nat), i ≤ n ∧ iv = .int .i64 i ∧ ActsStand w1 g g' N i wr) (fun v _ => n - (intOf v).toNat)
    case atStart => exact ⟨0, Nat.zero_le _, rfl, HST.out⟩
    case round =>
      obtain ⟨i, hi', rfl, ⟨F, F', s, hb, hlS, hws, hleft⟩⟩ := hrel
      have HB := Lib.hid hb
      have HLS := Lib.hid hlS
      clear hb hlS
      by_cases hlt : i < n
      · obtain ⟨a, ha⟩ : ∃ a, l[i]? = some a := ⟨_, List.getElem?_eq_getElem (by rw [HL.out]; exact hlt)⟩
        obtain ⟨b, o, rfl, _, hbl, hat⟩ := (HR.out.keep (HM1.out.trans HB.out.2.2.2) (fun _ _ => id)) (by rw [HL.out]; omega)
        obtain ⟨h0, h1, h2, ⟨B, cB, h3, hl3, hr3⟩, K, cK, h4, hl4, hr4⟩ := hat i a ha
        have HR3 := Lib.hid hr3
        have HR4 := Lib.hid hr4
        have HAN := Lib.hid (HRG.out a (List.mem_of_getElem? ha))
        have hbn := HSML.out a (List.mem_of_getElem? ha)
        have HBA := Lib.hid (Blk.new wr 79 #[.int .i64 a.kind, .int .i64 a.n, .int .i64 a.m, .slice B a.b.length cB, .slice K a.keep.length cK])
        clear hat ha hr3 hr4
        go_wp2_with fail
        refine (actOctets_any (fun k => k < w.heap.size) a B K cB cK _ hl3 (HR3.out.keep0 ((Mod.refl Nil wr).alloc _)) (fun k hk => by have := HM1.out.size; have := HB.out.2.2.2.size; simp; omega)).mono ?_
        rintro r w5 ⟨A5, c5, rfl, hr5, hm5⟩
        have hb5 := HBA.out.keep hm5 id
        have hc0 := hb5.cell 0
        have hc1 := hb5.cell 1
        have hc2 := hb5.cell 2
        have hc4 := hb5.cell 4
        have hm5' : Mod Nil wr w5 := ((Mod.refl Nil wr).alloc _).trans hm5
        have HB5 := Lib.hid (HB.out.keep0 hm5')
        have HR5 := Lib.hid hr5
        have HRK := Lib.hid (HR4.out.keep0 hm5')
        have HBK := Lib.hid hb5
        have hol := octets_small hbn
        have HLT := Lib.hid (show ∀ k, (F k ∨ F' k) → w.heap.size ≤ k ∧ k < wr.heap.size from fun k hk => by have := HM1.out.size; rcases hk with hk | hk; (have := HB.out.1.lt k hk; omega); (have := HB.out.2.1.lt k hk; omega))
        have HB5S := Lib.hid (show w1.heap.size ≤ w5.heap.size from HB5.out.2.2.2.size)
        clear hr5 hm5 hb5 hm5' h0 h1 h2 h3 h4
        go_upto_block 2 with (fail)
        go_cut [] (fun wx => ActsStand w1 g g' N (i + 1) wx)
        case first =>
          by_cases k0 : a.kind = 0
          · have kb : (a.kind == 0) = true := by simp [k0]
            clear k0
            have HW0 := Lib.hid (write_small s a.n a.octets)
            have HBD := Lib.hid (HB5.out.keep0 ((Mod.refl Nil w5).drew))
            have HRD := Lib.hid (HR5.out.keep0 ((Mod.refl Nil w5).drew))
            have kc0 := conv_bytes (l := a.octets) (n := a.octets.length) HRD.out rfl c5
            have HS5 := Lib.hid (show w1.heap.size ≤ w5.drew.heap.size from HB5S.out)
            have HSF := Lib.hid (show ∀ k, (k < w.heap.size ∨ (wr.alloc (.cells #[.int .i64 a.kind, .int .i64 a.n, .int .i64 a.m, .slice B a.b.length cB, .slice K a.keep.length cK] 79)).heap.size ≤ k) → ¬ (F k ∨ F' k) from fun k hk hF => by have := HLT.out k hF; simp at hk; omega)
            go_wp2_with fail
            go_region_law (first
              | (go_simp
                 go_at_call 45
                 refine (dskWrite_any w1.heap.size g F s a.n A5 a.octets.length c5 _ a.octets _ HBD.out.1 HS5.out (by omega) hleft rfl HRD.out (fun k hk hF => HSF.out k hk (.inl hF))).mono ?_
                 rintro r w6 ⟨rfl, F6, hd6, hm6, hF6⟩
                 have hc1 := (HBK.out.drew.keep hm6 (fun hk => by have := HLT.out _ (.inl hk); omega)).cell 1
                 have HRD6 := Lib.hid (HRD.out.keep hm6 (fun k hk hF => HSF.out k hk (.inl hF)))
                 have kc6 := conv_bytes (l := a.octets) (n := a.octets.length) HRD6.out rfl c5
                 have HD6 := Lib.hid hd6
                 have HX6 := Lib.hid (HBD.out.disk hd6 hm6 hF6)
                 clear hd6 hm6 hF6)
              | (go_simp
                 go_at_call 54
                 refine (rdkWrite_any w1.heap.size g' F' s a.n a.octets _ HX6.out.1 HX6.out.2.2.size (by omega) hleft (by omega)).mono ?_
                 rintro r w7 ⟨rfl, F7, hd7, hm7, hF7⟩
                 have HBT := Lib.hid (show ActsStand w1 g g' N (i + 1) w7 from ⟨_, _, _, both_ref HD6.out HX6.out.1 HX6.out.2.1 HX6.out.2.2 hd7 hm7 hF7, by rw [HW0.out.1]; exact HLS.out, by have := HW0.out.2.2; omega, by have := HW0.out.2.1; omega⟩)
                 clear hd7 hm7 hF7))
            all_goals
              go_simp
              go_wp2_with fail
              go_meet
              case rel => exact HBT.out
          by_cases k1 : a.kind = 1
          · have kb0 : (a.kind == 0) = false := by simp [k0]
            have kb : (a.kind == 1) = true := by simp [k1]
            clear k0 k1
            obtain ⟨ev, hev⟩ : ∃ ev : Int, ev = if s.on = true then 0 else 20 := ⟨_, rfl⟩
            obtain ⟨s2, hs2⟩ : ∃ s2 : DSt, s2 = if s.on = true then (⟨s.img, [], s.spend.left⟩ : DSt) else s := ⟨_, rfl⟩
            have hsm := sync_small s HB5.out.1.imgLen
            rw [← hs2] at hsm
            have HSM := Lib.hid hsm
            have HC := Lib.hid (dskSync_any w1.heap.size g F s _ HB5.out.1 HB5S.out (by omega) hleft)
            rw [← hev, ← hs2] at HC
            have HC2 := Lib.hid (fun (w6 : World) (hr6 : RdkAt w1.heap.size w6 g' F' s) (hB6 : w1.heap.size ≤ w6.heap.size) => rdkSync_any w1.heap.size g' F' s w6 hr6 hB6 (by omega) hleft)
            rw [← hev, ← hs2] at HC2
            clear hev hs2 hsm
            go_wp2_with fail
            refine HC.out.mono ?_
            rintro r w6 ⟨rfl, F6, hd6, hm6, hF6⟩
            have HD6 := Lib.hid hd6
            have HX6 := Lib.hid (HB5.out.disk hd6 hm6 hF6)
            clear hd6 hm6 hF6
            go_wp2_with fail
            refine (HC2.out _ HX6.out.1 HX6.out.2.2.size).mono ?_
            rintro r w7 ⟨rfl, F7, hd7, hm7, hF7⟩
            have HBT := Lib.hid (both_ref HD6.out HX6.out.1 HX6.out.2.1 HX6.out.2.2 hd7 hm7 hF7)
            clear hd7 hm7 hF7
            go_wp2_with fail
            go_meet
            case rel => exact ⟨F6, F7, s2, HBT.out, HSM.out.1.trans HLS.out, by have := HSM.out.2.1; omega, by have := HSM.out.2.2; omega⟩
          by_cases k2 : a.kind = 2
          · have kb0 : (a.kind == 0) = false := by simp [k0]
            have kb1 : (a.kind == 1) = false := by simp [k1]
            have kb : (a.kind == 2) = true := by simp [k2]
            clear k0 k1 k2
            by_cases ht : s.there a.n = true
            · have hn : 0 ≤ a.n := by unfold DSt.there at ht; simp at ht; exact ht.1
              obtain ⟨m, hm⟩ := Int.eq_ofNat_of_zero_le hn
              replace hc1 : w5.cell? ⟨wr.heap.size, 1, none⟩ = some (.int .i64 m) := by rw [← hm]; exact hc1
              have hts : s.there m = true := hm ▸ ht
              have HTS := Lib.hid hts
              have HSL := Lib.hid (sector_length (I := s.img) (n := m) (by rw [HB5.out.1.imgLen]; exact DSt.there_fits hts))
              have HMN := Lib.hid hm
              clear hn hm ht hts
              go_wp2_with fail
              refine (dskRead_ok w1.heap.size g F s m _ HB5.out.1 HTS.out (by omega)).mono ?_
              rintro r w6 ⟨v6, rfl, ho6, hm6⟩
              obtain ⟨A6, c6, rfl, _, _⟩ := own_slice ho6
              replace hc1 : w6.cell? ⟨wr.heap.size, 1, none⟩ = some (.int .i64 m) := by
                have h := (HBK.out.keep hm6 id).cell 1
                rw [HMN.out] at h
                exact h
              have HO6 := Lib.hid (Rd.of_own ho6)
              have HB6 := Lib.hid (HB5.out.keep0 hm6)
              clear ho6 hm6
              go_wp2_with fail
              refine (rdkRead_ok w1.heap.size g' F' s m _ HB6.out.2.1 HTS.out (by omega)).mono ?_
              rintro r w7 ⟨rfl, hm7⟩
              have k7 := conv_bytes (l := sector s.img m) (n := 64) (HO6.out.keep0 hm7) HSL.out c6
              have HB7 := Lib.hid (HB6.out.keep0 hm7)
              clear hm7
              go_wp2_with fail
              go_meet
              case rel => exact ⟨F, F', s, HB7.out, HLS.out, by omega, hleft⟩
            · have HTF := Lib.hid (show s.there a.n = false by simpa using ht)
              clear ht
              go_wp2_with fail
              refine (dskRead_bad w1.heap.size g F s a.n _ HB5.out.1 HTF.out).mono ?_
              rintro r w6 ⟨rfl, rfl⟩
              go_wp2_with fail
              refine (rdkRead_bad w1.heap.size g' F' s a.n _ HB5.out.2.1 HTF.out).mono ?_
              rintro r w7 ⟨rfl, hm7⟩
              have k7 := conv_bytes (l := []) (n := 0) (Rd.nil All w7 none) rfl 0
              have HB7 := Lib.hid (HB5.out.keep0 hm7)
              clear hm7
              go_wp2_with fail
              go_meet
              case rel => exact ⟨F, F', s, HB7.out, HLS.out, by omega, hleft⟩
          by_cases k3 : a.kind = 3
          · have kb0 : (a.kind == 0) = false := by simp [k0]
            have kb1 : (a.kind == 1) = false := by simp [k1]
            have kb2 : (a.kind == 2) = false := by simp [k2]
            have kb : (a.kind == 3) = true := by simp [k3]
            clear k0 k1 k2 k3
            go_wp2_with fail
            refine (dskPower_any w1.heap.size g F s a.n _ HB5.out.1).mono ?_
            rintro r w6 ⟨rfl, F6, hd6, hm6, hF6⟩
            have hc1 := (HBK.out.keep hm6 (fun hk => by have := HLT.out _ (.inl hk); omega)).cell 1
            have HD6 := Lib.hid hd6
            have HX6 := Lib.hid (HB5.out.disk hd6 hm6 hF6)
            clear hd6 hm6 hF6
            go_wp2_with fail
            refine (rdkPower_any w1.heap.size g' F' s a.n _ HX6.out.1).mono ?_
            rintro r w7 ⟨rfl, F7, hd7, hm7, hF7⟩
            have HBT := Lib.hid (both_ref HD6.out HX6.out.1 HX6.out.2.1 HX6.out.2.2 hd7 hm7 hF7)
            clear hd7 hm7 hF7
            go_wp2_with fail
            go_meet
            case rel => exact ⟨F6, F7, _, HBT.out, HLS.out, Nat.le_trans hws (Nat.le_succ _), by have := HAN.out; show max a.n (-1) ≤ _; omega⟩
          by_cases k4 : a.kind = 4
          · have kb0 : (a.kind == 0) = false := by simp [k0]
            have kb1 : (a.kind == 1) = false := by simp [k1]
            have kb2 : (a.kind == 2) = false := by simp [k2]
            have kb3 : (a.kind == 3) = false := by simp [k3]
            have kb : (a.kind == 4) = true := by simp [k4]
            clear k0 k1 k2 k3 k4
            go_wp2_with fail
            refine (dskCrash_any w1.heap.size g F s K a.keep.length cK a.keep a.n a.m (fun k => k < w.heap.size) _ HB5.out.1 (by omega) rfl hl4 HRK.out (fun k hk hF => by have := HLT.out k (.inl hF); omega)).mono ?_
            rintro r w6 ⟨rfl, F6, hd6, hm6, hF6⟩
            have hb6 := HBK.out.keep hm6 (fun hk => by have := HLT.out _ (.inl hk); omega)
            have hc1 := hb6.cell 1
            have hc2 := hb6.cell 2
            have hc4 := hb6.cell 4
            have HRK6 := Lib.hid (HRK.out.keep hm6 (fun k hk hF => by have := HLT.out k (.inl hF); omega))
            have HD6 := Lib.hid hd6
            have HX6 := Lib.hid (HB5.out.disk hd6 hm6 hF6)
            clear hd6 hm6 hF6 hb6
            go_wp2_with fail
            refine (rdkCrash_any w1.heap.size g' F' s K a.keep.length cK a.keep a.n a.m (fun k => k < w.heap.size) _ HX6.out.1 (by omega) rfl HRK6.out (fun k hk hF => by have := HLT.out k (.inr hF); omega)).mono ?_
            rintro r w7 ⟨rfl, F7, hd7, hm7, hF7⟩
            have HBT := Lib.hid (both_ref HD6.out HX6.out.1 HX6.out.2.1 HX6.out.2.2 hd7 hm7 hF7)
            clear hd7 hm7 hF7
            go_wp2_with fail
            go_meet
            case rel =>
              refine ⟨F6, F7, _, HBT.out, ?_, Nat.zero_le _, by show (-1 : Int) ≤ _; omega⟩
              obtain ⟨vw, _, hrd⟩ := HB5.out.2.1
              show (crTo _ _ _ _ _ _).length = _
              rw [crTo_length (fun y hy => (hrd.fit y hy).1)]
              exact HLS.out
          · have kb0 : (a.kind == 0) = false := by simp [k0]
            have kb1 : (a.kind == 1) = false := by simp [k1]
            have kb2 : (a.kind == 2) = false := by simp [k2]
            have kb3 : (a.kind == 3) = false := by simp [k3]
            have kb : (a.kind == 4) = false := by simp [k4]
            clear k0 k1 k2 k3 k4
            go_wp2_with fail
            go_meet
            case rel => exact ⟨F, F', s, HB5.out, HLS.out, by omega, hleft⟩
        case rest =>
          have HCUT := Lib.hid hcut
          clear hcut
          obtain ⟨Fx, Fy, sx, hb, hl, hw, hlf⟩ := HCUT.out
          have HBX := Lib.hid hb
          have HLX := Lib.hid (show sx.S.length / 64 = N by rw [hl]; omega)
          have hsb : sx.S.length ≤ 1000 := by rw [hl]; omega
          clear hb hl
          obtain ⟨C, cC, hCw⟩ : ∃ C cC, (∃ vw, Fy = RF g' vw ∧ vw = .slice C sx.ws.length cC ∧ RdkIs w1.heap.size wc g' vw sx) := by
            obtain ⟨vw, hF, hd⟩ := HBX.out.2.1
            obtain ⟨C, cC, hv, _, _⟩ := own_slice hd.waits
            exact ⟨C, cC, vw, hF, hv, hd⟩
          have HQ := Lib.hid (show ∀ wa, Mod Nil wc wa → wa.cell? ⟨g', 1, none⟩ = some (.slice C sx.ws.length cC) by
            intro wa hm
            obtain ⟨vw, _, rfl, hd⟩ := hCw
            exact (hd.keep hm (fun _ _ => id)).blk.cell 1)
          clear hCw
          go_wp2_with fail
          refine wp_flow2 (by kernel_rfl) (R := Mod Nil)
            [(128, .is (.pointer (some ⟨g, 0, none⟩))), (129, ⟨IsSl sx.S.length (sx.img.map bv), fun _ _ _ h k => h.keep0 k⟩), (130, .is (.string (str sx.img))), (131, .is (.pointer (some ⟨g', 0, none⟩))), (132, .is (.string (str sx.img))), (133, .is (.bool false)), (134, .is (.bool false)),
            (135, .is (.pointer (some ⟨g, 0, none⟩))), (136, .is (.int .i64 sx.ws.length)), (137, .is (.pointer (some ⟨g', 0, none⟩))), (138, .is (.pointer (some ⟨g', 0, none⟩))), (139, .is (.pointer (some ⟨g', 1, none⟩))), (140, .is (.slice C sx.ws.length cC)), (141, .is (.int .i64 sx.ws.length)), (142, .is (.bool false)), (143, .is (.bool false)), (144, .is (.bool false)),
            (145, .is (.pointer (some ⟨g, 0, none⟩))), (146, .is (.int .i64 N)), (147, .is (.int .i64 N)), (148, .is (.bool false)), (149, .is (.bool false))]
            (by kernel_rfl) (Mod.refl Nil) mod_trans ?fops ?ffin
          case fops =>
            refine ⟨?_, ?_, ?_, ?_, ?_, ?_, ?_, ?_, ?_, ?_, ?_, ?_, ?_, ?_, ?_, ?_, ?_, ?_, ?_, ?_, ?_, ?_, trivial⟩
            all_goals intro a wa hR hk
            all_goals simp [Oper.looksAt, Op.operands, Call.operands, Seen, slot, St.is, Act.eval] at hk
            all_goals try refine ⟨fun _ => ?_, fun hg => (hg (by simp [Act.eval, hk])).elim⟩
            all_goals have hM4 := (Mod.refl Nil wc).drew.trans hR
            all_goals have hcq := HQ.out wa hM4
            all_goals try (go_wp2_with fail; exact leaves_of (Mod.refl _ _) rfl)
            · go_wp2_with fail
              refine (dskImage_any _ g Fx sx wa (HBX.out.1.keep0 hM4) (by omega)).mono ?_
              rintro r w5 ⟨v5, rfl, ho5, hm5⟩
              exact leaves_of hm5 (IsSl.of_own ho5)
            · obtain ⟨A', c', hg, _, _, hln, hr⟩ := hk
              rw [List.length_map] at hln
              have kb := conv_bytes hr hln c'
              clear hr hln
              go_wp2_with fail
              exact leaves_of (Mod.refl _ _) rfl
            · go_wp2_with fail
              refine (rdkImage_any _ g' Fy sx wa (HBX.out.2.1.keep0 hM4) (by omega)).mono ?_
              rintro r w5 ⟨rfl, hm5⟩
              exact leaves_of hm5 rfl
            · go_wp2_with fail
              refine (dskWaiting_any _ g Fx sx wa (HBX.out.1.keep0 hM4)).mono ?_
              rintro r w5 ⟨rfl, rfl⟩
              exact leaves_of (Mod.refl _ _) rfl
            · go_wp2_with fail
              refine (dskSize_any _ g Fx sx wa (HBX.out.1.keep0 hM4)).mono ?_
              rintro r w5 ⟨rfl, rfl⟩
              exact leaves_of (Mod.refl _ _) (by simp [Holds, slot, St.is, HLX.out])
          case ffin =>
            intro w9 vs hR hV
            simp [HoldsAll, St.is] at hV
            obtain ⟨e128, ⟨A2, c2, e129, _⟩, e130, e131, e132, e133, e134, e135, e136, e137, e138, e139, e140, e141, e142, e143, e144, e145, e146, e147, e148, e149⟩ := hV
            simp only [List.map_cons, List.map_nil, List.foldl_cons, List.foldl_nil, Act.put, e128, e129, e130, e131, e132, e133, e134, e135, e136, e137, e138, e139, e140, e141, e142, e143, e144, e145, e146, e147, e148, e149, List.setIfInBounds_toArray, List.set_cons_succ, List.set_cons_zero]
            clear e128 e129 e130 e131 e132 e133 e134 e135 e136 e137 e138 e139 e140 e141 e142 e143 e144 e145 e146 e147 e148 e149
            have HF := Lib.hid (show ActsStand w1 g g' N (i + 1) w9 from by
              obtain ⟨F9, F9', s9, h9, h9l, h9w, h9f⟩ := HCUT.out
              exact ⟨F9, F9', s9, h9.keep0 ((Mod.refl Nil wc).drew.trans hR), h9l, h9w, h9f⟩)
            clear hR
            go_wp2_with fail
            go_roundw
            case rel => exact ⟨i + 1, by omega, by go_num, HF.out⟩
            case measure => simp [intOf] <;> omega
      · go_wp2_with fail
        go_ret
        exact ⟨rfl, HM1.out.trans HB.out.2.2.2⟩
  · have hsm' : actsSmall l = false := by simpa using hsm
    go_enter Try.func10, Try.ntmps10
    go_wp2_with fail
    refine (awake3_any _).mono ?_
    rintro r w1 ⟨rfl, hm1⟩
    have HM1 := Lib.hid hm1
    clear hm1
    go_wp2_with fail
    refine (small3_any (fun b => b < w.heap.size) A n cap l _ HL.out (HR.out.keep HM1.out (fun _ _ => id))).mono ?_
    rintro r w2 ⟨rfl, rfl⟩
    rw [hsm']
    clear hsm hsm'
    go_wp2_with fail
    refine (awake3_any _).mono ?_
    rintro r w3 ⟨rfl, hm3⟩
    have HM3 := Lib.hid (HM1.out.trans hm3)
    clear hm3
    go_wp2_with fail
    go_ret
    exact ⟨rfl, HM3.out⟩
end Go.Proofs.Ytdllafmponmkmaa
