/- Contracts of the document's journal: Format, Put. -/
import Derived.Test.YtjmehamkpmimkaaRjnX
namespace Go.Proofs.Ytjmehamkpmimkaa
open Go.RowKit

theorem jfits_room {s : DSt} {t : List UInt8} (h : jFits s t = 0) : 4 + t.length ≤ 64 * jA s.secs := by
  unfold jFits at h
  split at h
  · exact absurd h (by decide)
  split at h
  · exact absurd h (by decide)
  rename_i h1 h2
  unfold jRoom at h1 h2
  unfold jA
  by_cases h3 : (s.secs : Int) < 1 ∨ 65536 < (s.secs : Int)
  · rw [if_pos h3] at h1; omega
  by_cases h4 : (s.secs : Int) < 4
  · rw [if_neg h3, if_pos h4] at h1; omega
  rw [if_neg h3, if_neg h4] at h2
  omega
theorem jA_le {n : Nat} (h : n ≤ 65536) : jA n ≤ 32767 := by unfold jA; omega

theorem rhead_any' (kv xv : Int) (n x : Nat) (w : World) (hkv : kv = n) (hxv : xv = x) (hn : n ≤ 1) (hx : x < 4294967296) :
    Calls Try.prog 62 #[.int .i64 kv, .int .u32 xv] w fun r w' => r = .returned (.string (str (jMark n x))) ∧ Mod Nil w w' := by
  subst hxv
  exact rhead_any kv n x w hkv hn hx

theorem pair_fst {α β : Type} {p : α × β} {a : α} {b : β} (h : p = (a, b)) : p.1 = a := by rw [h]

set_option maxHeartbeats 1600000 in
set_option maxRecDepth 100000 in
theorem rformat_any (B g : Nat) (F : Nat → Prop) (s : DSt) (t : List UInt8) (w : World) (h : RdkAt B w g F s) (hB : B ≤ w.heap.size) (hz : Szd s) (hbig : s.ws.length ≤ 600000) (hl : s.left ≤ 9223372036854775807) :
    Calls Try.prog 25 #[.pointer (some ⟨g, 0, none⟩), .string (str t)] w (RdkPost B w g F (jFormat t s).1 (.returned (.int .i64 (jFormat t s).2))) := by
  have HFT := Lib.hid (rfits_any B g F s t w h hz)
  by_cases he : jFits s t = 0
  · have HA := Lib.hid (fun w' (hm : Mod Nil w w') => rarea_any B g F s w' (h.keep0 hm) hz)
    obtain ⟨a, ha⟩ : ∃ a, a = jA s.secs := ⟨_, rfl⟩
    have hrm := jfits_room he
    rw [← ha] at HA hrm
    have ha9 : a ≤ 32767 := by rw [ha]; exact jA_le hz.2.1
    have HFO := Lib.hid (fun w => rform_any t a w hrm ha9)
    have hbl := jArea_len hrm
    obtain ⟨b, hb⟩ : ∃ b, b = jArea a t := ⟨_, rfl⟩
    have HRT := Lib.hid (show jFormat t s = if (jRun [jLay (1 + a) b, DSt.sync] s).2 = 0 then jRun [jLay 0 (jMark 0 0), DSt.sync] (jRun [jLay (1 + a) b, DSt.sync] s).1 else jRun [jLay (1 + a) b, DSt.sync] s by
      unfold jFormat
      rw [if_pos he, show s.home = 1 + a by unfold DSt.home; rw [ha], ← ha, ← hb, run_two])
    rw [← hb] at HFO hbl
    have HC := Lib.hid (fun w' (hm : Mod Nil w w') => rboth_any B g F s a (1 + a) (1 + (a : Int)) b w' (h.keep0 hm) (Nat.le_trans hB hm.size) hz (by omega) hbl (by omega) (by omega) (by omega) hl)
    obtain ⟨k1, k2, k3, k4⟩ := both_keeps (k := 1 + a) hz hbl
    rw [he] at HFT
    clear h he ha hrm hbl hb
    by_cases he : (jRun [jLay (1 + a) b, DSt.sync] s).2 = 0
    · rw [if_pos he] at HRT
      rw [he] at HC
      obtain ⟨s1, hs1⟩ : ∃ s1, s1 = (jRun [jLay (1 + a) b, DSt.sync] s).1 := ⟨_, rfl⟩
      rw [← hs1] at HC HRT k1 k3 k4
      have HZ1 := Lib.hid k1
      clear he hs1 k1 k2
      go_enter Try.func25, Try.ntmps25
      go_wp2_with fail
      refine HFT.out.mono ?_
      rintro r w1 ⟨rfl, rfl⟩
      go_wp2_with fail
      refine (HA.out _ (Mod.refl _ _)).mono ?_
      rintro r w1 ⟨rfl, rfl⟩
      go_wp2_with fail
      refine (HA.out _ (Mod.refl _ _)).mono ?_
      rintro r w1 ⟨rfl, rfl⟩
      go_wp2_with fail
      refine (HFO.out _).mono ?_
      rintro r w1 ⟨rfl, hm0⟩
      have HM0 := Lib.hid hm0
      clear hm0
      go_wp2_with fail
      refine (HC.out _ HM0.out).mono ?_
      intro r w2 h2
      obtain ⟨rfl, F1, hd1, hm1, hF1⟩ := h2.from_ HM0.out
      have HD1 := Lib.hid hd1
      have HM1 := Lib.hid hm1
      have HF1 := Lib.hid hF1
      clear hd1 hm1 hF1 h2
      go_wp2_with fail
      refine (rhead_any' 0 0 0 0 _ rfl rfl (by omega) (by omega)).mono ?_
      rintro r w3 ⟨rfl, hm2⟩
      have HM2 := Lib.hid hm2
      clear hm2
      go_wp2_with fail
      refine (rboth_any B g F1 s1 1 0 0 (jMark 0 0) _ (HD1.out.keep0 HM2.out) (Nat.le_trans hB (Nat.le_trans HM1.out.size HM2.out.size)) HZ1.out rfl (jMark_len 0 0) (by omega) (by omega) (by omega) (by omega)).mono ?_
      intro r w4 h4
      have HP := Lib.hid ((h4.from_ HM2.out).then_ HM1.out HF1.out)
      obtain ⟨rfl, _⟩ := h4
      go_wp2_with fail
      go_ret
      rw [HRT.out]
      exact HP.out
    · rw [if_neg he] at HRT
      have he0 : ((jRun [jLay (1 + a) b, DSt.sync] s).2 != 0) = true := by simp [he]
      have HEN := Lib.hid he
      clear he k1 k2 k3 k4
      go_enter Try.func25, Try.ntmps25
      go_wp2_with fail
      refine HFT.out.mono ?_
      rintro r w1 ⟨rfl, rfl⟩
      go_wp2_with fail
      refine (HA.out _ (Mod.refl _ _)).mono ?_
      rintro r w1 ⟨rfl, rfl⟩
      go_wp2_with fail
      refine (HA.out _ (Mod.refl _ _)).mono ?_
      rintro r w1 ⟨rfl, rfl⟩
      go_wp2_with fail
      refine (HFO.out _).mono ?_
      rintro r w1 ⟨rfl, hm0⟩
      have HM0 := Lib.hid hm0
      clear hm0
      go_wp2_with fail
      refine (HC.out _ HM0.out).mono ?_
      intro r w2 h2
      have HP := Lib.hid (h2.from_ HM0.out)
      obtain ⟨rfl, _⟩ := h2
      go_wp2_with fail
      go_ret
      rw [HRT.out]
      exact HP.out
  · have HRT := Lib.hid (show jFormat t s = (s, jFits s t) by unfold jFormat; rw [if_neg he])
    have he0 : (jFits s t != 0) = true := by simp [he]
    have HEN := Lib.hid he
    have HD := Lib.hid h
    clear he h
    go_enter Try.func25, Try.ntmps25
    go_wp2_with fail
    refine HFT.out.mono ?_
    rintro r w1 ⟨rfl, rfl⟩
    go_wp2_with fail
    go_ret
    rw [HRT.out]
    exact ⟨rfl, F, HD.out, Mod.refl _ _, fun _ h => .inl h⟩

set_option maxHeartbeats 1600000 in
set_option maxRecDepth 100000 in
theorem rput_any (B g : Nat) (F : Nat → Prop) (s : DSt) (t : List UInt8) (w : World) (h : RdkAt B w g F s) (hB : B ≤ w.heap.size) (hz : Szd s) (hbig : s.ws.length ≤ 500000) (hl : s.left ≤ 9223372036854775807) :
    Calls Try.prog 18 #[.pointer (some ⟨g, 0, none⟩), .string (str t)] w (RdkPost B w g F (jPut t s).1 (.returned (.int .i64 (jPut t s).2))) := by
  have HFT := Lib.hid (rfits_any B g F s t w h hz)
  by_cases he : jFits s t = 0
  · have HA := Lib.hid (fun w' (hm : Mod Nil w w') => rarea_any B g F s w' (h.keep0 hm) hz)
    obtain ⟨a, ha⟩ : ∃ a, a = jA s.secs := ⟨_, rfl⟩
    have hrm := jfits_room he
    have HSA := Lib.hid (show jA s.secs = a from ha.symm)
    rw [← ha] at HA hrm
    have ha9 : a ≤ 32767 := by rw [ha]; exact jA_le hz.2.1
    have HFO := Lib.hid (fun w => rform_any t a w hrm ha9)
    have hbl := jArea_len hrm
    obtain ⟨b, hb⟩ : ∃ b, b = jArea a t := ⟨_, rfl⟩
    rw [← hb] at HFO hbl
    have hx := crcSum_lt b
    obtain ⟨x, hxe⟩ : ∃ x, x = crcSum b := ⟨_, rfl⟩
    have hx : x < 4294967296 := by rw [hxe]; simpa using hx
    have HXE := Lib.hid (show crcSum b = x from hxe.symm)
    have HSUM := Lib.hid (fun w => refSum_any (str b) w (by rw [str_size]; simp only [maxLen]; omega))
    rw [str_list, ← hxe] at HSUM
    have HRT := Lib.hid (show jPut t s = if (jRun [jLay 1 b, DSt.sync] s).2 = 0 then (if (jRun [jLay 0 (jMark 1 x), DSt.sync] (jRun [jLay 1 b, DSt.sync] s).1).2 = 0 then jRun [jLay (1 + a) b, DSt.sync, jLay 0 (jMark 0 x), DSt.sync] (jRun [jLay 0 (jMark 1 x), DSt.sync] (jRun [jLay 1 b, DSt.sync] s).1).1 else jRun [jLay 0 (jMark 1 x), DSt.sync] (jRun [jLay 1 b, DSt.sync] s).1) else jRun [jLay 1 b, DSt.sync] s by
      unfold jPut jSteps
      rw [if_pos he, show s.home = 1 + a by unfold DSt.home; rw [ha], ← ha, ← hb, ← hxe]
      rw [run_two 1 b, run_two 0 (jMark 1 x)])
    have HC := Lib.hid (fun w' (hm : Mod Nil w w') => rboth_any B g F s a 1 1 b w' (h.keep0 hm) (Nat.le_trans hB hm.size) hz rfl hbl (by omega) (by omega) (by omega) hl)
    obtain ⟨k1, k2, k3, k4⟩ := both_keeps (k := 1) hz hbl
    have HSEC := Lib.hid k2
    have HBL := Lib.hid hbl
    rw [he] at HFT
    clear h he ha hrm hbl hb hxe k2
    by_cases he : (jRun [jLay 1 b, DSt.sync] s).2 = 0
    · rw [if_pos he] at HRT
      rw [he] at HC
      obtain ⟨s1, hs1⟩ : ∃ s1, s1 = (jRun [jLay 1 b, DSt.sync] s).1 := ⟨_, rfl⟩
      rw [← hs1] at HC HRT HSEC k1 k3 k4
      have HZ1 := Lib.hid k1
      have HE1 := Lib.hid (both_keeps (k := 0) (b := jMark 1 x) (m := 1) k1 (jMark_len 1 x))
      clear he hs1 k1
      have HB2 := Lib.hid (fun F1 w' (hd : RdkAt B w' g F1 s1) (hw : B ≤ w'.heap.size) => rboth_any B g F1 s1 1 0 0 (jMark 1 x) w' hd hw HZ1.out rfl (jMark_len 1 x) (by omega) (by omega) (by omega) (by omega))
      by_cases he : (jRun [jLay 0 (jMark 1 x), DSt.sync] s1).2 = 0
      · rw [if_pos he] at HRT
        rw [he] at HB2
        obtain ⟨k1, k2, k5, k6⟩ := HE1.out
        obtain ⟨s2, hs2⟩ : ∃ s2, s2 = (jRun [jLay 0 (jMark 1 x), DSt.sync] s1).1 := ⟨_, rfl⟩
        rw [← hs2] at HB2 HRT k1 k2 k5 k6
        have HA2 := Lib.hid (show a = jA s2.secs by rw [k2, HSEC.out, HSA.out])
        have HZ2 := Lib.hid k1
        have HOM := Lib.hid (fun F1 w' (hd : RdkAt B w' g F1 s2) (hw : B ≤ w'.heap.size) => rhome_any B g F1 s2 a b w' hd hw HZ2.out HA2.out HBL.out (by omega) (by omega))
        rw [HXE.out] at HOM
        clear he hs2 k1 k2 HE1
        go_enter Try.func18, Try.ntmps18
        go_wp2_with fail
        refine HFT.out.mono ?_
        rintro r w1 ⟨rfl, rfl⟩
        go_wp2_with fail
        refine (HA.out _ (Mod.refl _ _)).mono ?_
        rintro r w1 ⟨rfl, rfl⟩
        go_wp2_with fail
        refine (HFO.out _).mono ?_
        rintro r w1 ⟨rfl, hm0⟩
        have HM0 := Lib.hid hm0
        clear hm0
        go_wp2_with fail
        refine (HC.out _ HM0.out).mono ?_
        intro r w2 h2
        obtain ⟨rfl, F1, hd1, hm1, hF1⟩ := h2.from_ HM0.out
        have HD1 := Lib.hid hd1
        have HM1 := Lib.hid hm1
        have HF1 := Lib.hid hF1
        clear hd1 hm1 hF1 h2
        go_wp2_with fail
        refine (HSUM.out _).mono ?_
        rintro r w3 ⟨rfl, rfl⟩
        go_wp2_with fail
        refine (rhead_any 1 1 x _ rfl (by omega) hx).mono ?_
        rintro r w3 ⟨rfl, hm2⟩
        have HM2 := Lib.hid hm2
        clear hm2
        go_wp2_with fail
        refine (HB2.out F1 _ (HD1.out.keep0 HM2.out) (Nat.le_trans hB (Nat.le_trans HM1.out.size HM2.out.size))).mono ?_
        intro r w4 h4
        obtain ⟨rfl, F2, hd4, hm4, hF4⟩ := (h4.from_ HM2.out).then_ HM1.out HF1.out
        have HD4 := Lib.hid hd4
        have HM4 := Lib.hid hm4
        have HF4 := Lib.hid hF4
        clear hd4 hm4 hF4 h4
        go_wp2_with fail
        refine (HOM.out F2 _ HD4.out (Nat.le_trans hB HM4.out.size)).mono ?_
        intro r w5 h5
        have HP := Lib.hid (h5.then_ HM4.out HF4.out)
        obtain ⟨rfl, _⟩ := h5
        go_wp2_with fail
        go_ret
        rw [HRT.out]
        exact HP.out
      · rw [if_neg he] at HRT
        have he0 : ((jRun [jLay 0 (jMark 1 x), DSt.sync] s1).2 != 0) = true := by simp [he]
        have HEN := Lib.hid he
        clear he HE1
        go_enter Try.func18, Try.ntmps18
        go_wp2_with fail
        refine HFT.out.mono ?_
        rintro r w1 ⟨rfl, rfl⟩
        go_wp2_with fail
        refine (HA.out _ (Mod.refl _ _)).mono ?_
        rintro r w1 ⟨rfl, rfl⟩
        go_wp2_with fail
        refine (HFO.out _).mono ?_
        rintro r w1 ⟨rfl, hm0⟩
        have HM0 := Lib.hid hm0
        clear hm0
        go_wp2_with fail
        refine (HC.out _ HM0.out).mono ?_
        intro r w2 h2
        obtain ⟨rfl, F1, hd1, hm1, hF1⟩ := h2.from_ HM0.out
        have HD1 := Lib.hid hd1
        have HM1 := Lib.hid hm1
        have HF1 := Lib.hid hF1
        clear hd1 hm1 hF1 h2
        go_wp2_with fail
        refine (HSUM.out _).mono ?_
        rintro r w3 ⟨rfl, rfl⟩
        go_wp2_with fail
        refine (rhead_any 1 1 x _ rfl (by omega) hx).mono ?_
        rintro r w3 ⟨rfl, hm2⟩
        have HM2 := Lib.hid hm2
        clear hm2
        go_wp2_with fail
        refine (HB2.out F1 _ (HD1.out.keep0 HM2.out) (Nat.le_trans hB (Nat.le_trans HM1.out.size HM2.out.size))).mono ?_
        intro r w4 h4
        have HP := Lib.hid ((h4.from_ HM2.out).then_ HM1.out HF1.out)
        obtain ⟨rfl, _⟩ := h4
        go_wp2_with fail
        go_ret
        rw [HRT.out]
        exact HP.out
    · rw [if_neg he] at HRT
      have he0 : ((jRun [jLay 1 b, DSt.sync] s).2 != 0) = true := by simp [he]
      have HEN := Lib.hid he
      clear he k1 k3 k4
      go_enter Try.func18, Try.ntmps18
      go_wp2_with fail
      refine HFT.out.mono ?_
      rintro r w1 ⟨rfl, rfl⟩
      go_wp2_with fail
      refine (HA.out _ (Mod.refl _ _)).mono ?_
      rintro r w1 ⟨rfl, rfl⟩
      go_wp2_with fail
      refine (HFO.out _).mono ?_
      rintro r w1 ⟨rfl, hm0⟩
      have HM0 := Lib.hid hm0
      clear hm0
      go_wp2_with fail
      refine (HC.out _ HM0.out).mono ?_
      intro r w2 h2
      have HP := Lib.hid (h2.from_ HM0.out)
      obtain ⟨rfl, _⟩ := h2
      go_wp2_with fail
      go_ret
      rw [HRT.out]
      exact HP.out
  · have HRT := Lib.hid (show jPut t s = (s, jFits s t) by unfold jPut; rw [if_neg he])
    have he0 : (jFits s t != 0) = true := by simp [he]
    have HEN := Lib.hid he
    have HD := Lib.hid h
    clear he h
    go_enter Try.func18, Try.ntmps18
    go_wp2_with fail
    refine HFT.out.mono ?_
    rintro r w1 ⟨rfl, rfl⟩
    go_wp2_with fail
    go_ret
    rw [HRT.out]
    exact ⟨rfl, F, HD.out, Mod.refl _ _, fun _ h => .inl h⟩

end Go.Proofs.Ytjmehamkpmimkaa
