/- Contracts of the document's journal: lay, both, home, Format, Put. -/
import Derived.Test.YtjmehamkpmimkaaRjnW
namespace Go.Proofs.Ytjmehamkpmimkaa
open Go.RowKit

theorem run_one (f : DStep) (s : DSt) : jRun [f] s = f s := by
  rw [jRun]
  by_cases h : (f s).2 = 0
  · rw [if_pos h, jRun, ← h]
  · rw [if_neg h]
theorem run_pair (f q : DStep) (s : DSt) : jRun [f, q] s = if (f s).2 = 0 then q (f s).1 else f s := by
  rw [jRun, run_one]

set_option maxHeartbeats 3200000 in
set_option maxRecDepth 100000 in
theorem rlay_any (B g : Nat) (F : Nat → Prop) (s : DSt) (m k : Nat) (kv : Int) (b : List UInt8) (w : World) (h : RdkAt B w g F s) (hB : B ≤ w.heap.size) (hkv : kv = k) (hb : b.length = 64 * m) (hm : m ≤ 32768) (hk : k ≤ 70000) (hbig : s.ws.length ≤ 800000) (hl : s.left ≤ 9223372036854775807) :
    Calls Try.prog 92 #[.pointer (some ⟨g, 0, none⟩), .int .i64 kv, .string (str b)] w (RdkPost B w g F (jLay k b s).1 (.returned (.int .i64 (jLay k b s).2))) := by
  rw [jLay_of hb]
  subst hkv
  have HD := Lib.hid h
  have HB := Lib.hid hb
  have hsb := str_size b
  rw [hb] at hsb
  clear h hb
  go_enter Try.func92, Try.ntmps92
  go_wp2_with fail
  go_loopw [7] (fun iv wr => ∃ (j : Nat) (sk : DSt), j ≤ m ∧ iv = .int .i64 ((64 * j : Nat) : Int) ∧ RSince B w g F sk wr ∧ jLayN m k b s = jLayN (m - j) (k + j) (b.drop (64 * j)) sk ∧ Grows j s sk) (fun v _ => 64 * m - (intOf v).toNat)
  case atStart => exact ⟨0, s, Nat.zero_le _, rfl, RSince.refl HD.out, rfl, Grows.refl s⟩
  case round =>
    obtain ⟨j, sk, hj, rfl, hsi, hjl, hgr⟩ := hrel
    have HSI := Lib.hid hsi
    have HJL := Lib.hid hjl
    have HGR := Lib.hid hgr
    clear hsi hjl hgr
    by_cases hlt : j < m
    · obtain ⟨r, hr⟩ : ∃ r, m - j = r + 1 := ⟨m - j - 1, by omega⟩
      obtain ⟨F1, hd1, hm1, hF1⟩ := HSI.out
      obtain ⟨I, hI⟩ : ∃ I, I = 64 * j := ⟨_, rfl⟩
      rw [← hI]
      have ht : Int.tdiv (I : Int) 64 = (j : Int) := by rw [Int.tdiv_eq_ediv_of_nonneg (by omega)]; omega
      have hlt2 : I < 64 * m := by omega
      have hlt3 : I + 64 ≤ 64 * m := by omega
      have HI := Lib.hid hI
      have hbig2 := HGR.out.2.1
      have hleft2 := HGR.out.2.2
      obtain ⟨ch, hch⟩ : ∃ ch, ch = (b.drop I).take 64 := ⟨_, rfl⟩
      have hchl : ch.length = 64 := by rw [hch, List.length_take, List.length_drop, HB.out]; omega
      have hx : (str b).extract I (I + 64) = str ch := by rw [str_cut, hch, show I + 64 - I = 64 by omega]
      clear hI
      have HW := Lib.hid (fun w' (hw' : Mod Nil wr w') => rdkWrite_any B g F1 sk ((k + j : Nat) : Int) ch w' (hd1.keep0 hw') (Nat.le_trans hB (Nat.le_trans hm1.size hw'.size)) (by omega) (by omega) (by omega))
      rw [Int.natCast_add] at HW
      have HM1 := Lib.hid hm1
      have HF1 := Lib.hid hF1
      have HCH := Lib.hid hch
      have hjn : jLayN (r + 1) (k + j) (b.drop (64 * j)) sk = if (sk.write ((k : Int) + (j : Int)) ch).2 = 0 then jLayN r (k + j + 1) ((b.drop (64 * j)).drop 64) (sk.write ((k : Int) + (j : Int)) ch).1 else sk.write ((k : Int) + (j : Int)) ch := by rw [jLayN, ← HI.out, ← HCH.out, Int.natCast_add]
      rw [← hr, ← HJL.out] at hjn
      have HGW := Lib.hid (HGR.out.trans (write_grows sk ((k : Int) + (j : Int)) ch))
      have HJN0 := Lib.hid hjn
      clear hd1 hm1 hF1 hch hjn
      go_wp2_with fail
      refine (HW.out _ (Mod.refl _ _)).mono ?_
      rintro r6 w6 ⟨rfl, F6, hd6, hm6, hF6⟩
      have HS6 := Lib.hid (rsince_step HM1.out HF1.out hd6 hm6 hF6)
      clear hd6 hm6 hF6
      by_cases he : (sk.write ((k : Int) + (j : Int)) ch).2 = 0
      · have hjn := HJN0.out
        rw [if_pos he] at hjn
        have HJN := Lib.hid hjn
        rw [he]
        clear hjn he
        go_wp2_with fail
        go_roundw
        case rel => exact ⟨j + 1, _, by omega, by have := HI.out; rw [this]; go_num, HS6.out, by rw [HJN.out, List.drop_drop, show m - (j + 1) = r by omega]; rfl, HGW.out⟩
        case measure => simp [intOf] <;> omega
      · have hjn := HJN0.out
        rw [if_neg he] at hjn
        have HJN := Lib.hid hjn
        have he0 : ((sk.write ((k : Int) + (j : Int)) ch).2 != 0) = true := by simp [he]
        have HEN := Lib.hid he
        clear hjn he
        go_wp2_with fail
        go_ret
        rw [HJN.out]
        exact HS6.out.post _
    · have HFI := Lib.hid (show jLayN m k b s = (sk, 0) by
        have := HJL.out
        rw [show m - j = 0 by omega] at this
        exact this)
      go_wp2_with fail
      go_ret
      rw [HFI.out]
      exact HSI.out.post _

set_option maxHeartbeats 1600000 in
set_option maxRecDepth 100000 in
theorem rboth_any (B g : Nat) (F : Nat → Prop) (s : DSt) (m k : Nat) (kv : Int) (b : List UInt8) (w : World) (h : RdkAt B w g F s) (hB : B ≤ w.heap.size) (hz : Szd s) (hkv : kv = k) (hb : b.length = 64 * m) (hm : m ≤ 32768) (hk : k ≤ 70000) (hbig : s.ws.length ≤ 800000) (hl : s.left ≤ 9223372036854775807) :
    Calls Try.prog 61 #[.pointer (some ⟨g, 0, none⟩), .int .i64 kv, .string (str b)] w (RdkPost B w g F (jRun [jLay k b, DSt.sync] s).1 (.returned (.int .i64 (jRun [jLay k b, DSt.sync] s).2))) := by
  subst hkv
  have HC := Lib.hid (rlay_any B g F s m k k b w h hB rfl hb hm hk hbig hl)
  obtain ⟨g1, g2⟩ := lay_g k b s hz.2.2.2
  rw [hb, Nat.mul_div_cancel_left _ (by omega)] at g2
  have hws := g2.2.1
  have hlf := g2.2.2
  clear h
  by_cases he : (jLay k b s).2 = 0
  · have HR := Lib.hid (show jRun [jLay k b, DSt.sync] s = DSt.sync (jLay k b s).1 by rw [run_pair, if_pos he])
    rw [he] at HC
    obtain ⟨s1, hs1⟩ : ∃ s1, s1 = (jLay k b s).1 := ⟨_, rfl⟩
    rw [← hs1] at HC HR hws hlf
    clear he hs1 g1 g2
    go_enter Try.func61, Try.ntmps61
    go_wp2_with fail
    refine HC.out.mono ?_
    rintro r w1 ⟨rfl, F1, hd1, hm1, hF1⟩
    have HD1 := Lib.hid hd1
    have HM1 := Lib.hid hm1
    have HF1 := Lib.hid hF1
    clear hd1 hm1 hF1
    go_wp2_with fail
    refine (show Calls Try.prog 65 #[.pointer (some ⟨g, 0, none⟩)] w1 (RdkPost B w1 g F1 (DSt.sync s1).1 (.returned (.int .i64 (DSt.sync s1).2))) from rdkSync_any B g F1 s1 w1 HD1.out (Nat.le_trans hB HM1.out.size) (by omega) (by omega)).mono ?_
    rintro r w2 ⟨rfl, F2, hd2, hm2, hF2⟩
    have HS := Lib.hid (rsince_step HM1.out HF1.out hd2 hm2 hF2)
    clear hd2 hm2 hF2
    go_wp2_with fail
    go_ret
    rw [HR.out]
    exact HS.out.post _
  · have HR := Lib.hid (show jRun [jLay k b, DSt.sync] s = jLay k b s by rw [run_pair, if_neg he])
    have he0 : ((jLay k b s).2 != 0) = true := by simp [he]
    have HEN := Lib.hid he
    clear he g1 g2
    go_enter Try.func61, Try.ntmps61
    go_wp2_with fail
    refine HC.out.mono ?_
    rintro r w1 ⟨rfl, F1, hd1, hm1, hF1⟩
    have HD1 := Lib.hid hd1
    have HM1 := Lib.hid hm1
    have HF1 := Lib.hid hF1
    clear hd1 hm1 hF1
    go_wp2_with fail
    go_ret
    rw [HR.out]
    exact ⟨rfl, F1, HD1.out, HM1.out, HF1.out⟩

/-- What both leaves of a disk's size and bounds. -/
theorem both_keeps {k m : Nat} {b : List UInt8} {s : DSt} (hz : Szd s) (hb : b.length = 64 * m) : Szd (jRun [jLay k b, DSt.sync] s).1 ∧ (jRun [jLay k b, DSt.sync] s).1.secs = s.secs ∧ (jRun [jLay k b, DSt.sync] s).1.ws.length ≤ s.ws.length + m ∧ (jRun [jLay k b, DSt.sync] s).1.left ≤ s.left := by
  obtain ⟨g1, g2⟩ := both_g k b run_nil_g s hz.2.2.2
  rw [hb, Nat.mul_div_cancel_left _ (by omega)] at g2
  exact ⟨hz.to g2.1 g1, by unfold DSt.secs; rw [g2.1], g2.2.1, g2.2.2⟩
theorem run_two (k1 : Nat) (b1 : List UInt8) (rest : List DStep) (s : DSt) : jRun (jLay k1 b1 :: DSt.sync :: rest) s = if (jRun [jLay k1 b1, DSt.sync] s).2 = 0 then jRun rest (jRun [jLay k1 b1, DSt.sync] s).1 else jRun [jLay k1 b1, DSt.sync] s := jRun_append [jLay k1 b1, DSt.sync] rest s

theorem RdkPost.then_ {B g : Nat} {F F1 : Nat → Prop} {s : DSt} {w w1 w2 : World} {e r : Ending} (hm : Mod F w w1) (hF : ∀ k, F1 k → F k ∨ w.heap.size ≤ k) (h : RdkPost B w1 g F1 s e r w2) : RdkPost B w g F s e r w2 := by
  obtain ⟨h0, F2, h1, h2, h3⟩ := h
  obtain ⟨F3, q1, q2, q3⟩ := rsince_step hm hF h1 h2 h3
  exact ⟨h0, F3, q1, q2, q3⟩
theorem RdkPost.from_ {B g : Nat} {F : Nat → Prop} {s : DSt} {w w1 w2 : World} {e r : Ending} (h : RdkPost B w1 g F s e r w2) (hm : Mod Nil w w1) : RdkPost B w g F s e r w2 := h.then_ hm.any (fun _ h => .inl h)

set_option maxHeartbeats 1600000 in
set_option maxRecDepth 100000 in
theorem rhome_any (B g : Nat) (F : Nat → Prop) (s : DSt) (a : Nat) (b : List UInt8) (w : World) (h : RdkAt B w g F s) (hB : B ≤ w.heap.size) (hz : Szd s) (ha : a = jA s.secs) (hb : b.length = 64 * a) (hbig : s.ws.length ≤ 700000) (hl : s.left ≤ 9223372036854775807) :
    Calls Try.prog 64 #[.pointer (some ⟨g, 0, none⟩), .string (str b)] w (RdkPost B w g F (jRun [jLay (1 + a) b, DSt.sync, jLay 0 (jMark 0 (crcSum b)), DSt.sync] s).1 (.returned (.int .i64 (jRun [jLay (1 + a) b, DSt.sync, jLay 0 (jMark 0 (crcSum b)), DSt.sync] s).2))) := by
  have ha9 : a ≤ 32767 := by rw [ha]; have := hz.2.1; unfold jA; omega
  have HA := Lib.hid (rarea_any B g F s w h hz)
  rw [← ha] at HA
  have HC := Lib.hid (rboth_any B g F s a (1 + a) (1 + (a : Int)) b w h hB hz (by omega) hb (by omega) (by omega) (by omega) hl)
  have hx := crcSum_lt b
  obtain ⟨x, hxe⟩ : ∃ x, x = crcSum b := ⟨_, rfl⟩
  have hx : x < 4294967296 := by rw [hxe]; simpa using hx
  have HSUM := Lib.hid (fun w => refSum_any (str b) w (by rw [str_size]; simp only [maxLen]; omega))
  rw [str_list, ← hxe] at HSUM
  have HRT := Lib.hid (run_two (1 + a) b [jLay 0 (jMark 0 (crcSum b)), DSt.sync] s)
  rw [← hxe] at HRT ⊢
  obtain ⟨k1, k2, k3, k4⟩ := both_keeps (k := 1 + a) hz hb
  clear h hxe ha hb
  by_cases he : (jRun [jLay (1 + a) b, DSt.sync] s).2 = 0
  · rw [if_pos he] at HRT
    rw [he] at HC
    obtain ⟨s1, hs1⟩ : ∃ s1, s1 = (jRun [jLay (1 + a) b, DSt.sync] s).1 := ⟨_, rfl⟩
    rw [← hs1] at HC HRT k1 k3 k4
    have HZ1 := Lib.hid k1
    clear he hs1 k1 k2
    go_enter Try.func64, Try.ntmps64
    go_wp2_with fail
    refine HA.out.mono ?_
    rintro r w1 ⟨rfl, rfl⟩
    go_wp2_with fail
    refine HC.out.mono ?_
    rintro r w1 ⟨rfl, F1, hd1, hm1, hF1⟩
    have HD1 := Lib.hid hd1
    have HM1 := Lib.hid hm1
    have HF1 := Lib.hid hF1
    clear hd1 hm1 hF1
    go_wp2_with fail
    refine (HSUM.out _).mono ?_
    rintro r w2 ⟨rfl, rfl⟩
    go_wp2_with fail
    refine (rhead_any 0 0 x _ rfl (by omega) hx).mono ?_
    rintro r w2 ⟨rfl, hm2⟩
    have HM2 := Lib.hid hm2
    clear hm2
    go_wp2_with fail
    refine (rboth_any B g F1 s1 1 0 0 (jMark 0 x) _ (HD1.out.keep0 HM2.out) (Nat.le_trans hB (Nat.le_trans HM1.out.size HM2.out.size)) HZ1.out rfl (jMark_len 0 x) (by omega) (by omega) (by omega) (by omega)).mono ?_
    intro r w3 h3
    have HP := Lib.hid ((h3.from_ HM2.out).then_ HM1.out HF1.out)
    obtain ⟨rfl, _⟩ := h3
    go_wp2_with fail
    go_ret
    rw [HRT.out]
    exact HP.out
  · rw [if_neg he] at HRT
    have he0 : ((jRun [jLay (1 + a) b, DSt.sync] s).2 != 0) = true := by simp [he]
    have HEN := Lib.hid he
    clear he k1 k2 k3 k4
    go_enter Try.func64, Try.ntmps64
    go_wp2_with fail
    refine HA.out.mono ?_
    rintro r w1 ⟨rfl, rfl⟩
    go_wp2_with fail
    refine HC.out.mono ?_
    rintro r w1 ⟨rfl, F1, hd1, hm1, hF1⟩
    have HD1 := Lib.hid hd1
    have HM1 := Lib.hid hm1
    have HF1 := Lib.hid hF1
    clear hd1 hm1 hF1
    go_wp2_with fail
    go_ret
    rw [HRT.out]
    exact ⟨rfl, F1, HD1.out, HM1.out, HF1.out⟩

end Go.Proofs.Ytjmehamkpmimkaa
