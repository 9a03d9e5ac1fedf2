/- Contracts of journal: lay, its closure, run, read. -/
import Derived.Test.YtjmehamkpmimkaaJrnA
namespace Go.Proofs.Ytjmehamkpmimkaa
open Go.RowKit

theorem jLay_of {m k : Nat} {b : List UInt8} (hb : b.length = 64 * m) (s : DSt) : jLay k b s = jLayN m k b s := by
  unfold jLay
  rw [hb, Nat.mul_div_cancel_left _ (by omega)]

set_option maxHeartbeats 3200000 in
set_option maxRecDepth 100000 in
theorem layFn_any (B g cb cd ca : Nat) (F S0 : Nat → Prop) (s : DSt) (A : Option Addr) (n c m k : Nat) (b : List UInt8) (w : World) (h : DskAt B w g F s) (hB : B ≤ w.heap.size)
    (h0 : w.cell? ⟨cb, 0, none⟩ = some (.slice A n c)) (h1 : w.cell? ⟨cd, 0, none⟩ = some (.pointer (some ⟨g, 0, none⟩))) (h2 : w.cell? ⟨ca, 0, none⟩ = some (.int .i64 (k : Int)))
    (hlt : cb < w.heap.size ∧ cd < w.heap.size ∧ ca < w.heap.size) (hF : ¬ F cb ∧ ¬ F cd ∧ ¬ F ca)
    (hb : b.length = n) (hn : n = 64 * m) (hnc : n ≤ c) (hcm : c ≤ maxLen) (hr : Rd S0 w A (b.map bv)) (hS : ∀ k, S0 k → ¬ F k ∧ k < w.heap.size) (hm : m ≤ 32768) (hk : k ≤ 70000) (hbig : s.ws.length ≤ 800000) (hl : s.left ≤ 9223372036854775807) :
    Calls Try.prog 89 #[.pointer (some ⟨cb, 0, none⟩), .pointer (some ⟨cd, 0, none⟩), .pointer (some ⟨ca, 0, none⟩)] w (DskPost B w g F (jLay k b s).1 (.returned (.int .i64 (jLay k b s).2))) := by
  rw [jLay_of (hb.trans hn)]
  have HD := Lib.hid h
  have HR := Lib.hid hr
  have HS := Lib.hid hS
  have HB := Lib.hid hb
  have HC0 := Lib.hid h0
  have HC1 := Lib.hid h1
  have HC2 := Lib.hid h2
  have HF := Lib.hid hF
  have HLT := Lib.hid hlt
  unfold maxLen at hcm
  subst hn
  clear h hr hS hb hF hlt
  go_enter Try.func89, Try.ntmps89
  go_wp2_with fail
  clear h0 h1 h2
  go_loopw [4] (fun iv wr => ∃ (j : Nat) (sk : DSt), j ≤ m ∧ iv = .int .i64 ((64 * j : Nat) : Int) ∧ DSince B w g F sk wr ∧ jLayN m k b s = jLayN (m - j) (k + j) (b.drop (64 * j)) sk ∧ Grows j s sk) (fun v _ => 64 * m - (intOf v).toNat)
  case atStart => exact ⟨0, s, Nat.zero_le _, rfl, DSince.refl HD.out, rfl, Grows.refl s⟩
  case round =>
    obtain ⟨j, sk, hj, rfl, hsi, hjl, hgr⟩ := hrel
    have HSI := Lib.hid hsi
    have HJL := Lib.hid hjl
    have HGR := Lib.hid hgr
    have hmd := hsi.mod
    have hc0 : wr.cell? ⟨cb, 0, none⟩ = some (.slice A (64 * m) c) := (hmd.cell (p := ⟨cb, 0, none⟩) HLT.out.1 HF.out.1).trans HC0.out
    have hc1 := (hmd.cell (p := ⟨cd, 0, none⟩) HLT.out.2.1 HF.out.2.1).trans HC1.out
    have hc2 := (hmd.cell (p := ⟨ca, 0, none⟩) HLT.out.2.2 HF.out.2.2).trans HC2.out
    have hcm2 : c ≤ 9223372036854775807 := by omega
    clear hsi hjl hgr hmd
    by_cases hlt : j < m
    · obtain ⟨r, hr⟩ : ∃ r, m - j = r + 1 := ⟨m - j - 1, by omega⟩
      obtain ⟨F1, hd1, hm1, hF1⟩ := HSI.out
      have hrd := HR.out.keep hm1 (fun x hx => (HS.out x hx).1)
      obtain ⟨ad, rfl, _, hadl, _⟩ := hrd (by rw [List.length_map, HB.out]; omega)
      obtain ⟨I, hI⟩ : ∃ I, I = 64 * j := ⟨_, rfl⟩
      rw [← hI]
      have hne : ¬ c = I := by omega
      have ht : Int.tdiv (I : Int) 64 = (j : Int) := by rw [Int.tdiv_eq_ediv_of_nonneg (by omega)]; omega
      have hw1 : IntKind.i64.wrap ((I : Int) + 64) = (I : Int) + 64 := IntWalk.i64_in _ (by omega)
      have hw2 : IntKind.i64.wrap (j : Int) = (j : Int) := IntWalk.i64_in _ (by omega)
      have hw3 : IntKind.i64.wrap ((k : Int) + (j : Int)) = (k : Int) + (j : Int) := IntWalk.i64_in _ (by omega)
      have hb1 : ((I : Int) + 64).toNat = I + 64 := by omega
      have hb2 : 0 ≤ (I : Int) + 64 := by omega
      have hb3 : (I : Int) + 64 ≤ (c : Int) := by omega
      have hb4 : (I : Int) ≤ max ((I : Int) + 64) 0 := by omega
      have hlt2 : I < 64 * m := by omega
      have HI := Lib.hid hI
      have hbig2 := HGR.out.2.1
      have hleft2 := HGR.out.2.2
      obtain ⟨ch, hch⟩ : ∃ ch, ch = (b.drop I).take 64 := ⟨_, rfl⟩
      have hchl : ch.length = 64 := by rw [hch, List.length_take, List.length_drop, HB.out]; omega
      have HRC := Lib.hid (show Rd S0 wr (some (ad.add I)) (ch.map bv) by
        have := (hrd.drop I).take 64
        rw [← List.map_drop, ← List.map_take, ← hch] at this
        exact this)
      clear hI
      have HW := Lib.hid (fun w' (hw' : Mod Nil wr w') (cap : Nat) => dskWrite_any B g F1 sk ((k + j : Nat) : Int) (some (ad.add I)) 64 cap S0 ch w' (hd1.keep0 hw') (Nat.le_trans hB (Nat.le_trans hm1.size hw'.size)) (by omega) (by omega) hchl (HRC.out.keep0 hw') (fun x hx hxF => (hF1 x hxF).elim (HS.out x hx).1 (fun hge => by have := (HS.out x hx).2; omega)))
      have HM1 := Lib.hid hm1
      have HF1 := Lib.hid hF1
      have HCH := Lib.hid hch
      have HCHL := Lib.hid hchl
      clear hd1 hm1 hF1 hrd hch hchl
      go_wp2_with fail
      go_region_law (go_simp;
                     go_at_call 27;
                     refine (HW.out _ ((Mod.refl Nil wr).drew) _).mono ?_;
                     rintro r6 w6 ⟨rfl, F6, hd6, hm6, hF6⟩;
                     have HS6 := Lib.hid (dsince_step HM1.out HF1.out hd6 (((Mod.refl F1 wr).drew).trans hm6) (by simpa using hF6));
                     clear hd6 hm6 hF6)
      all_goals
        have hjn : jLayN (r + 1) (k + j) (b.drop (64 * j)) sk = if (sk.write ((k : Int) + (j : Int)) ch).2 = 0 then jLayN r (k + j + 1) ((b.drop (64 * j)).drop 64) (sk.write ((k : Int) + (j : Int)) ch).1 else sk.write ((k : Int) + (j : Int)) ch := by rw [jLayN, ← HI.out, ← HCH.out, Int.natCast_add]
        rw [← hr, ← HJL.out] at hjn
        have HGW := Lib.hid (HGR.out.trans (write_grows sk ((k : Int) + (j : Int)) ch))
        by_cases he : (sk.write ((k : Int) + (j : Int)) ch).2 = 0
        · rw [if_pos he] at hjn
          have HJN := Lib.hid hjn
          rw [he]
          clear hjn he
          go_simp
          go_wp2_with fail
          go_roundw
          case rel => exact ⟨j + 1, _, by omega, by have := HI.out; rw [this]; go_num, HS6.out, by rw [HJN.out, List.drop_drop, show m - (j + 1) = r by omega]; rfl, HGW.out⟩
          case measure => simp [intOf] <;> omega
        · rw [if_neg he] at hjn
          have HJN := Lib.hid hjn
          have he0 : ((sk.write ((k : Int) + (j : Int)) ch).2 != 0) = true := by simp [he]
          have HEN := Lib.hid he
          clear hjn he
          go_simp
          go_wp2_with fail
          go_ret
          rw [HJN.out]
          exact HS6.out.post _
    · have HFI := Lib.hid (show jLayN m k b s = (sk, 0) by
        have := HJL.out
        rw [show m - j = 0 by omega] at this
        exact this)
      go_wp2_with fail
      go_ret
      rw [HFI.out]
      exact HSI.out.post _

/-- The steps as values: Sync of a disk, lay's closure. -/
def syncV (g : Nat) : Value := .func (.func 51) #[.pointer (some ⟨g, 0, none⟩)] #[]
def layV (cb cd ca : Nat) : Value := .func (.func 89) #[] #[.pointer (some ⟨cb, 0, none⟩), .pointer (some ⟨cd, 0, none⟩), .pointer (some ⟨ca, 0, none⟩)]

/-- What lay's closure holds. -/
structure LayAt (w : World) (g cb cd ca : Nat) (S0 : Nat → Prop) (A : Option Addr) (n c m k : Nat) (b : List UInt8) : Prop where
  h0 : w.cell? ⟨cb, 0, none⟩ = some (.slice A n c)
  h1 : w.cell? ⟨cd, 0, none⟩ = some (.pointer (some ⟨g, 0, none⟩))
  h2 : w.cell? ⟨ca, 0, none⟩ = some (.int .i64 (k : Int))
  lt : cb < w.heap.size ∧ cd < w.heap.size ∧ ca < w.heap.size
  len : b.length = n
  sec : n = 64 * m
  cap : n ≤ c
  most : c ≤ maxLen
  rd : Rd S0 w A (b.map bv)
  old : ∀ k, S0 k → k < w.heap.size
  m_ : m ≤ 32768
  k_ : k ≤ 70000

/-- A value that is a step f, whatever lies in F. -/
def StepV (g : Nat) (F : Nat → Prop) (w : World) (v : Value) (f : DStep) : Prop :=
  (v = syncV g ∧ f = DSt.sync) ∨ ∃ cb cd ca S0 A n c m k b, v = layV cb cd ca ∧ f = jLay k b ∧ LayAt w g cb cd ca S0 A n c m k b ∧ (¬ F cb ∧ ¬ F cd ∧ ¬ F ca) ∧ ∀ k, S0 k → ¬ F k

theorem LayAt.keep {w w' : World} {g cb cd ca : Nat} {S0 G : Nat → Prop} {A : Option Addr} {n c m k : Nat} {b : List UInt8} (h : LayAt w g cb cd ca S0 A n c m k b) (hm : Mod G w w') (hG : ¬ G cb ∧ ¬ G cd ∧ ¬ G ca) (hS : ∀ k, S0 k → ¬ G k) : LayAt w' g cb cd ca S0 A n c m k b := by
  have hs := hm.size
  exact ⟨(hm.cell (p := ⟨cb, 0, none⟩) h.lt.1 hG.1).trans h.h0, (hm.cell (p := ⟨cd, 0, none⟩) h.lt.2.1 hG.2.1).trans h.h1, (hm.cell (p := ⟨ca, 0, none⟩) h.lt.2.2 hG.2.2).trans h.h2, ⟨by have := h.lt.1; omega, by have := h.lt.2.1; omega, by have := h.lt.2.2; omega⟩,
    h.len, h.sec, h.cap, h.most, h.rd.keep hm hS, fun k hk => Nat.lt_of_lt_of_le (h.old k hk) hs, h.m_, h.k_⟩

set_option maxHeartbeats 3200000 in
set_option maxRecDepth 100000 in
theorem run_any (B g : Nat) (F S1 : Nat → Prop) (s : DSt) (A : Option Addr) (n c : Nat) (l : List (Value × DStep)) (w : World) (h : DskAt B w g F s) (hB : B ≤ w.heap.size) (hn : l.length = n) (hn9 : n ≤ 10)
    (hr : Rd S1 w A (l.map (·.1))) (hS : ∀ k, S1 k → ¬ F k) (hst : ∀ x ∈ l, StepV g F w x.1 x.2) (hbig : s.ws.length ≤ 400000) (hl : s.left ≤ 9223372036854775807) :
    Calls Try.prog 49 #[.slice A n c] w (DskPost B w g F (jRun (l.map (·.2)) s).1 (.returned (.int .i64 (jRun (l.map (·.2)) s).2))) := by
  have HD := Lib.hid h
  have HR := Lib.hid hr
  have HS := Lib.hid hS
  have HST := Lib.hid hst
  have HN := Lib.hid hn
  clear h hr hS hst hn
  go_enter Try.func49, Try.ntmps49
  go_wp2_with fail
  go_loopw [8] (fun iv wr => ∃ (k : Nat) (sk : DSt), k ≤ n ∧ iv = .int .i64 k ∧ DSince B w g F sk wr ∧ jRun (l.map (·.2)) s = jRun ((l.drop k).map (·.2)) sk ∧ sk.ws.length ≤ s.ws.length + k * 32768 ∧ sk.left ≤ s.left) (fun v _ => n - (intOf v).toNat)
  case atStart => exact ⟨0, s, Nat.zero_le _, rfl, DSince.refl HD.out, rfl, by omega, Int.le_refl _⟩
  case round =>
    obtain ⟨k, sk, hk, rfl, hsi, hjl, hws, hleft⟩ := hrel
    have HSI := Lib.hid hsi
    have HJL := Lib.hid hjl
    have hmd := hsi.mod
    clear hsi hjl
    by_cases hlt : k < n
    · obtain ⟨⟨v, f⟩, hx⟩ : ∃ x, l[k]? = some x := ⟨_, List.getElem?_eq_getElem (by rw [HN.out]; exact hlt)⟩
      obtain ⟨ad, rfl, _, hadl, hc⟩ := (HR.out.keep hmd HS.out).at_ (k := k) (u := v) (by rw [List.getElem?_map, hx]; rfl)
      obtain ⟨F1, hd1, hm1, hF1⟩ := HSI.out
      have hjn : jRun (l.map (·.2)) s = if (f sk).2 = 0 then jRun ((l.drop (k + 1)).map (·.2)) (f sk).1 else f sk := by
        rw [HJL.out, (show l.drop k = (v, f) :: l.drop (k + 1) by obtain ⟨hi, he⟩ := List.getElem?_eq_some_iff.1 hx; rw [← he]; exact List.drop_eq_getElem_cons hi)]
        rfl
      have hok := hd1.sized.2.2.2
      have HST1 := HST.out _ (List.mem_of_getElem? hx)
      have hBw : B ≤ wr.heap.size := Nat.le_trans hB hm1.size
      have hmul : k * 32768 ≤ 10 * 32768 := Nat.mul_le_mul_right _ (by omega)
      clear hx hmd
      rcases HST1 with ⟨hv, hf⟩ | ⟨cb, cd, ca, S0, A0, n0, c0, m, k0, b, hv, hf, hla, hF0, hS0⟩
      · dsimp only at hv hf
        subst hv hf
        have HW := Lib.hid (show Calls Try.prog 51 #[.pointer (some ⟨g, 0, none⟩)] wr (DskPost B wr g F1 (DSt.sync sk).1 (.returned (.int .i64 (DSt.sync sk).2))) from dskSync_any B g F1 sk wr hd1 hBw (by omega) (by omega))
        have HGR := Lib.hid (((sync_g sk hok).2).mono (Nat.zero_le 32768))
        have HM1 := Lib.hid hm1
        have HF1 := Lib.hid hF1
        have HJN := Lib.hid hjn
        clear hd1 hm1 hF1 hjn hok
        unfold syncV at hc
        go_wp2_with fail
        refine HW.out.mono ?_
        rintro r w6 ⟨rfl, F6, hd6, hm6, hF6⟩
        have HS6 := Lib.hid (dsince_step HM1.out HF1.out hd6 hm6 hF6)
        clear hd6 hm6 hF6
        by_cases he : (DSt.sync sk).2 = 0
        · have hjn := HJN.out
          rw [if_pos he] at hjn
          have HJ2 := Lib.hid hjn
          rw [he]
          clear hjn he
          go_wp2_with fail
          go_roundw
          case rel => exact ⟨k + 1, _, by omega, by go_num, HS6.out, HJ2.out, by have := HGR.out.2.1; omega, by have := HGR.out.2.2; omega⟩
          case measure => simp [intOf] <;> omega
        · have hjn := HJN.out
          rw [if_neg he] at hjn
          have he0 : ((DSt.sync sk).2 != 0) = true := by simp [he]
          have HEN := Lib.hid he
          have HJ2 := Lib.hid hjn
          clear hjn he
          go_wp2_with fail
          go_ret
          rw [HJ2.out]
          exact HS6.out.post _
      · dsimp only at hv hf
        subst hv hf
        have hlw := hla.keep hm1 hF0 hS0
        have HW := Lib.hid (layFn_any B g cb cd ca F1 S0 sk A0 n0 c0 m k0 b wr hd1 hBw hlw.h0 hlw.h1 hlw.h2 hlw.lt ⟨fun hx => (hF1 _ hx).elim hF0.1 (fun hge => by have := hla.lt.1; omega), fun hx => (hF1 _ hx).elim hF0.2.1 (fun hge => by have := hla.lt.2.1; omega), fun hx => (hF1 _ hx).elim hF0.2.2 (fun hge => by have := hla.lt.2.2; omega)⟩ hlw.len hlw.sec hlw.cap hlw.most hlw.rd (fun x hx => ⟨fun hxF => (hF1 x hxF).elim (hS0 x hx) (fun hge => by have := hla.old x hx; omega), hlw.old x hx⟩) hlw.m_ hlw.k_ (by omega) (by omega))
        have hbm : b.length / 64 = m := by rw [hla.len, hla.sec]; omega
        have HGR := Lib.hid (((lay_g k0 b sk hok).2).mono (show b.length / 64 ≤ 32768 by rw [hbm]; exact hla.m_))
        have HM1 := Lib.hid hm1
        have HF1 := Lib.hid hF1
        have HJN := Lib.hid hjn
        clear hd1 hm1 hF1 hjn hok hlw hla hbm hS0 hF0
        unfold layV at hc
        go_wp2_with fail
        refine HW.out.mono ?_
        rintro r w6 ⟨rfl, F6, hd6, hm6, hF6⟩
        have HS6 := Lib.hid (dsince_step HM1.out HF1.out hd6 hm6 hF6)
        clear hd6 hm6 hF6
        by_cases he : (jLay k0 b sk).2 = 0
        · have hjn := HJN.out
          rw [if_pos he] at hjn
          have HJ2 := Lib.hid hjn
          rw [he]
          clear hjn he
          go_wp2_with fail
          go_roundw
          case rel => exact ⟨k + 1, _, by omega, by go_num, HS6.out, HJ2.out, by have := HGR.out.2.1; omega, by have := HGR.out.2.2; omega⟩
          case measure => simp [intOf] <;> omega
        · have hjn := HJN.out
          rw [if_neg he] at hjn
          have he0 : ((jLay k0 b sk).2 != 0) = true := by simp [he]
          have HEN := Lib.hid he
          have HJ2 := Lib.hid hjn
          clear hjn he
          go_wp2_with fail
          go_ret
          rw [HJ2.out]
          exact HS6.out.post _
    · have HFI := Lib.hid (show jRun (l.map (·.2)) s = (sk, 0) by
        rw [HJL.out, List.drop_of_length_le (by rw [HN.out]; omega)]
        rfl)
      go_wp2_with fail
      go_ret
      rw [HFI.out]
      exact HSI.out.post _

end Go.Proofs.Ytjmehamkpmimkaa
