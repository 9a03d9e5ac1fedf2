/- Parts of the proof of StoreActs, joined: JrnL JrnM JrnN JrnG JrnR JrnAw. -/
import Derived.Test.YtjmehamkpmimkaaStoreActsj4
namespace Go.Proofs.Ytjmehamkpmimkaa
open Go.RowKit

theorem jLay_of {m k : Nat} {b : List UInt8} (hb : b.length = 64 * m) (s : DSt) : jLay k b s = jLayN m k b s := by
  unfold jLay
  rw [hb, Nat.mul_div_cancel_left _ (by omega)]

set_option maxHeartbeats 3200000 in
set_option maxRecDepth 100000 in
theorem layFn_any (B g cb cd ca : Nat) (F S0 : Nat → Prop) (s : DSt) (A : Option Addr) (n c m k : Nat) (b : List UInt8) (w : World) (h : DskAt B w g F s) (hB : B ≤ w.heap.size)
    (h0 : w.cell? ⟨cb, 0, none⟩ = some (.slice A n c)) (h1 : w.cell? ⟨cd, 0, none⟩ = some (.pointer (some ⟨g, 0, none⟩))) (h2 : w.cell? ⟨ca, 0, none⟩ = some (.int .i64 (k : Int)))
    (hlt : cb < w.heap.size ∧ cd < w.heap.size ∧ ca < w.heap.size) (hF : ¬ F cb ∧ ¬ F cd ∧ ¬ F ca)
    (hb : b.length = n) (hn : n = 64 * m) (hnc : n ≤ c) (hcm : c ≤ maxLen) (hr : Rd S0 w A (b.map bv)) (hS : ∀ k, S0 k → ¬ F k ∧ k < w.heap.size) (hm : m ≤ 32768) (hk : k ≤ 70000) (hbig : s.ws.length ≤ 800000) (hl : s.left ≤ 9223372036854775807) :
    Calls Try.prog 89 #[.pointer (some ⟨cb, 0, none⟩), .pointer (some ⟨cd, 0, none⟩), .pointer (some ⟨ca, 0, none⟩)] w (DskPost B w g F (jLay k b s).1 (.returned (.int .i64 (jLay k b s).2))) := by
  rw [jLay_of (hb.trans hn)]
  have HD := Lib.hid h
  have HR := Lib.hid hr
  have HS := Lib.hid hS
  have HB := Lib.hid hb
  have HC0 := Lib.hid h0
  have HC1 := Lib.hid h1
  have HC2 := Lib.hid h2
  have HF := Lib.hid hF
  have HLT := Lib.hid hlt
  unfold maxLen at hcm
  subst hn
  clear h hr hS hb hF hlt
  go_enter Try.func89, Try.ntmps89
  go_wp2_with fail
  clear h0 h1 h2
  go_loopw [4] (fun iv wr => ∃ (j : Nat) (sk : DSt), j ≤ m ∧ iv = .int .i64 ((64 * j : Nat) : Int) ∧ DSince B w g F sk wr ∧ jLayN m k b s = jLayN (m - j) (k + j) (b.drop (64 * j)) sk ∧ Grows j s sk) (fun v _ => 64 * m - (intOf v).toNat)
  case atStart => exact ⟨0, s, Nat.zero_le _, rfl, DSince.refl HD.out, rfl, Grows.refl s⟩
  case round =>
    obtain ⟨j, sk, hj, rfl, hsi, hjl, hgr⟩ := hrel
    have HSI := Lib.hid hsi
    have HJL := Lib.hid hjl
    have HGR := Lib.hid hgr
    have hmd := hsi.mod
    have hc0 : wr.cell? ⟨cb, 0, none⟩ = some (.slice A (64 * m) c) := (hmd.cell (p := ⟨cb, 0, none⟩) HLT.out.1 HF.out.1).trans HC0.out
    have hc1 := (hmd.cell (p := ⟨cd, 0, none⟩) HLT.out.2.1 HF.out.2.1).trans HC1.out
    have hc2 := (hmd.cell (p := ⟨ca, 0, none⟩) HLT.out.2.2 HF.out.2.2).trans HC2.out
    have hcm2 : c ≤ 9223372036854775807 := by omega
    clear hsi hjl hgr hmd
    by_cases hlt : j < m
    · obtain ⟨r, hr⟩ : ∃ r, m - j = r + 1 := ⟨m - j - 1, by omega⟩
      obtain ⟨F1, hd1, hm1, hF1⟩ := HSI.out
      have hrd := HR.out.keep hm1 (fun x hx => (HS.out x hx).1)
      obtain ⟨ad, rfl, _, hadl, _⟩ := hrd (by rw [List.length_map, HB.out]; omega)
      obtain ⟨I, hI⟩ : ∃ I, I = 64 * j := ⟨_, rfl⟩
      rw [← hI]
      have hne : ¬ c = I := by omega
      have ht : Int.tdiv (I : Int) 64 = (j : Int) := by rw [Int.tdiv_eq_ediv_of_nonneg (by omega)]; omega
      have hw1 : IntKind.i64.wrap ((I : Int) + 64) = (I : Int) + 64 := IntWalk.i64_in _ (by omega)
      have hw2 : IntKind.i64.wrap (j : Int) = (j : Int) := IntWalk.i64_in _ (by omega)
      have hw3 : IntKind.i64.wrap ((k : Int) + (j : Int)) = (k : Int) + (j : Int) := IntWalk.i64_in _ (by omega)
      have hb1 : ((I : Int) + 64).toNat = I + 64 := by omega
      have hb2 : 0 ≤ (I : Int) + 64 := by omega
      have hb3 : (I : Int) + 64 ≤ (c : Int) := by omega
      have hb4 : (I : Int) ≤ max ((I : Int) + 64) 0 := by omega
      have hlt2 : I < 64 * m := by omega
      have HI := Lib.hid hI
      have hbig2 := HGR.out.2.1
      have hleft2 := HGR.out.2.2
      obtain ⟨ch, hch⟩ : ∃ ch, ch = (b.drop I).take 64 := ⟨_, rfl⟩
      have hchl : ch.length = 64 := by rw [hch, List.length_take, List.length_drop, HB.out]; omega
      have HRC := Lib.hid (show Rd S0 wr (some (ad.add I)) (ch.map bv) by
        have := (hrd.drop I).take 64
        rw [← List.map_drop, ← List.map_take, ← hch] at this
        exact this)
      clear hI
      have HW := Lib.hid (fun w' (hw' : Mod Nil wr w') (cap : Nat) => dskWrite_any B g F1 sk ((k + j : Nat) : Int) (some (ad.add I)) 64 cap S0 ch w' (hd1.keep0 hw') (Nat.le_trans hB (Nat.le_trans hm1.size hw'.size)) (by omega) (by omega) hchl (HRC.out.keep0 hw') (fun x hx hxF => (hF1 x hxF).elim (HS.out x hx).1 (fun hge => by have := (HS.out x hx).2; omega)))
      have HM1 := Lib.hid hm1
      have HF1 := Lib.hid hF1
      have HCH := Lib.hid hch
      have HCHL := Lib.hid hchl
      clear hd1 hm1 hF1 hrd hch hchl
      go_wp2_with fail
      go_region_law (go_simp;
                     go_at_call 27;
                     refine (HW.out _ ((Mod.refl Nil wr).drew) _).mono ?_;
                     rintro r6 w6 ⟨rfl, F6, hd6, hm6, hF6⟩;
                     have HS6 := Lib.hid (dsince_step HM1.out HF1.out hd6 (((Mod.refl F1 wr).drew).trans hm6) (by simpa using hF6));
                     clear hd6 hm6 hF6)
      all_goals
        have hjn : jLayN (r + 1) (k + j) (b.drop (64 * j)) sk = if (sk.write ((k : Int) + (j : Int)) ch).2 = 0 then jLayN r (k + j + 1) ((b.drop (64 * j)).drop 64) (sk.write ((k : Int) + (j : Int)) ch).1 else sk.write ((k : Int) + (j : Int)) ch := by rw [jLayN, ← HI.out, ← HCH.out, Int.natCast_add]
        rw [← hr, ← HJL.out] at hjn
        have HGW := Lib.hid (HGR.out.trans (write_grows sk ((k : Int) + (j : Int)) ch))
        by_cases he : (sk.write ((k : Int) + (j : Int)) ch).2 = 0
        · rw [if_pos he] at hjn
          have HJN := Lib.hid hjn
          rw [he]
          clear hjn he
          go_simp
          go_wp2_with fail
          go_roundw
          case rel => exact ⟨j + 1, _, by omega, by have := HI.out; rw [this]; go_num, HS6.out, by rw [HJN.out, List.drop_drop, show m - (j + 1) = r by omega]; rfl, HGW.out⟩
          case measure => simp [intOf] <;> omega
        · rw [if_neg he] at hjn
          have HJN := Lib.hid hjn
          have he0 : ((sk.write ((k : Int) + (j : Int)) ch).2 != 0) = true := by simp [he]
          have HEN := Lib.hid he
          clear hjn he
          go_simp
          go_wp2_with fail
          go_ret
          rw [HJN.out]
          exact HS6.out.post _
    · have HFI := Lib.hid (show jLayN m k b s = (sk, 0) by
        have := HJL.out
        rw [show m - j = 0 by omega] at this
        exact this)
      go_wp2_with fail
      go_ret
      rw [HFI.out]
      exact HSI.out.post _

/-- The steps as values: Sync of a disk, lay's closure. -/
def syncV (g : Nat) : Value := .func (.func 51) #[.pointer (some ⟨g, 0, none⟩)] #[]
def layV (cb cd ca : Nat) : Value := .func (.func 89) #[] #[.pointer (some ⟨cb, 0, none⟩), .pointer (some ⟨cd, 0, none⟩), .pointer (some ⟨ca, 0, none⟩)]

/-- What lay's closure holds. -/
structure LayAt (w : World) (g cb cd ca : Nat) (S0 : Nat → Prop) (A : Option Addr) (n c m k : Nat) (b : List UInt8) : Prop where
  h0 : w.cell? ⟨cb, 0, none⟩ = some (.slice A n c)
  h1 : w.cell? ⟨cd, 0, none⟩ = some (.pointer (some ⟨g, 0, none⟩))
  h2 : w.cell? ⟨ca, 0, none⟩ = some (.int .i64 (k : Int))
  lt : cb < w.heap.size ∧ cd < w.heap.size ∧ ca < w.heap.size
  len : b.length = n
  sec : n = 64 * m
  cap : n ≤ c
  most : c ≤ maxLen
  rd : Rd S0 w A (b.map bv)
  old : ∀ k, S0 k → k < w.heap.size
  m_ : m ≤ 32768
  k_ : k ≤ 70000

/-- A value that is a step f, whatever lies in F. -/
def StepV (g : Nat) (F : Nat → Prop) (w : World) (v : Value) (f : DStep) : Prop :=
  (v = syncV g ∧ f = DSt.sync) ∨ ∃ cb cd ca S0 A n c m k b, v = layV cb cd ca ∧ f = jLay k b ∧ LayAt w g cb cd ca S0 A n c m k b ∧ (¬ F cb ∧ ¬ F cd ∧ ¬ F ca) ∧ ∀ k, S0 k → ¬ F k

theorem LayAt.keep {w w' : World} {g cb cd ca : Nat} {S0 G : Nat → Prop} {A : Option Addr} {n c m k : Nat} {b : List UInt8} (h : LayAt w g cb cd ca S0 A n c m k b) (hm : Mod G w w') (hG : ¬ G cb ∧ ¬ G cd ∧ ¬ G ca) (hS : ∀ k, S0 k → ¬ G k) : LayAt w' g cb cd ca S0 A n c m k b := by
  have hs := hm.size
  exact ⟨(hm.cell (p := ⟨cb, 0, none⟩) h.lt.1 hG.1).trans h.h0, (hm.cell (p := ⟨cd, 0, none⟩) h.lt.2.1 hG.2.1).trans h.h1, (hm.cell (p := ⟨ca, 0, none⟩) h.lt.2.2 hG.2.2).trans h.h2, ⟨by have := h.lt.1; omega, by have := h.lt.2.1; omega, by have := h.lt.2.2; omega⟩,
    h.len, h.sec, h.cap, h.most, h.rd.keep hm hS, fun k hk => Nat.lt_of_lt_of_le (h.old k hk) hs, h.m_, h.k_⟩

set_option maxHeartbeats 3200000 in
set_option maxRecDepth 100000 in
theorem run_any (B g : Nat) (F S1 : Nat → Prop) (s : DSt) (A : Option Addr) (n c : Nat) (l : List (Value × DStep)) (w : World) (h : DskAt B w g F s) (hB : B ≤ w.heap.size) (hn : l.length = n) (hn9 : n ≤ 10)
    (hr : Rd S1 w A (l.map (·.1))) (hS : ∀ k, S1 k → ¬ F k) (hst : ∀ x ∈ l, StepV g F w x.1 x.2) (hbig : s.ws.length ≤ 400000) (hl : s.left ≤ 9223372036854775807) :
    Calls Try.prog 49 #[.slice A n c] w (DskPost B w g F (jRun (l.map (·.2)) s).1 (.returned (.int .i64 (jRun (l.map (·.2)) s).2))) := by
  have HD := Lib.hid h
  have HR := Lib.hid hr
  have HS := Lib.hid hS
  have HST := Lib.hid hst
  have HN := Lib.hid hn
  clear h hr hS hst hn
  go_enter Try.func49, Try.ntmps49
  go_wp2_with fail
  go_loopw [8] (fun iv wr => ∃ (k : Nat) (sk : DSt), k ≤ n ∧ iv = .int .i64 k ∧ DSince B w g F sk wr ∧ jRun (l.map (·.2)) s = jRun ((l.drop k).map (·.2)) sk ∧ sk.ws.length ≤ s.ws.length + k * 32768 ∧ sk.left ≤ s.left) (fun v _ => n - (intOf v).toNat)
  case atStart => exact ⟨0, s, Nat.zero_le _, rfl, DSince.refl HD.out, rfl, by omega, Int.le_refl _⟩
  case round =>
    obtain ⟨k, sk, hk, rfl, hsi, hjl, hws, hleft⟩ := hrel
    have HSI := Lib.hid hsi
    have HJL := Lib.hid hjl
    have hmd := hsi.mod
    clear hsi hjl
    by_cases hlt : k < n
    · obtain ⟨⟨v, f⟩, hx⟩ : ∃ x, l[k]? = some x := ⟨_, List.getElem?_eq_getElem (by rw [HN.out]; exact hlt)⟩
      obtain ⟨ad, rfl, _, hadl, hc⟩ := (HR.out.keep hmd HS.out).at_ (k := k) (u := v) (by rw [List.getElem?_map, hx]; rfl)
      obtain ⟨F1, hd1, hm1, hF1⟩ := HSI.out
      have hjn : jRun (l.map (·.2)) s = if (f sk).2 = 0 then jRun ((l.drop (k + 1)).map (·.2)) (f sk).1 else f sk := by
        rw [HJL.out, (show l.drop k = (v, f) :: l.drop (k + 1) by obtain ⟨hi, he⟩ := List.getElem?_eq_some_iff.1 hx; rw [← he]; exact List.drop_eq_getElem_cons hi)]
        rfl
      have hok := hd1.sized.2.2.2
      have HST1 := HST.out _ (List.mem_of_getElem? hx)
      have hBw : B ≤ wr.heap.size := Nat.le_trans hB hm1.size
      have hmul : k * 32768 ≤ 10 * 32768 := Nat.mul_le_mul_right _ (by omega)
      clear hx hmd
      rcases HST1 with ⟨hv, hf⟩ | ⟨cb, cd, ca, S0, A0, n0, c0, m, k0, b, hv, hf, hla, hF0, hS0⟩
      · dsimp only at hv hf
        subst hv hf
        have HW := Lib.hid (show Calls Try.prog 51 #[.pointer (some ⟨g, 0, none⟩)] wr (DskPost B wr g F1 (DSt.sync sk).1 (.returned (.int .i64 (DSt.sync sk).2))) from dskSync_any B g F1 sk wr hd1 hBw (by omega) (by omega))
        have HGR := Lib.hid (((sync_g sk hok).2).mono (Nat.zero_le 32768))
        have HM1 := Lib.hid hm1
        have HF1 := Lib.hid hF1
        have HJN := Lib.hid hjn
        clear hd1 hm1 hF1 hjn hok
        unfold syncV at hc
        go_wp2_with fail
        refine HW.out.mono ?_
        rintro r w6 ⟨rfl, F6, hd6, hm6, hF6⟩
        have HS6 := Lib.hid (dsince_step HM1.out HF1.out hd6 hm6 hF6)
        clear hd6 hm6 hF6
        by_cases he : (DSt.sync sk).2 = 0
        · have hjn := HJN.out
          rw [if_pos he] at hjn
          have HJ2 := Lib.hid hjn
          rw [he]
          clear hjn he
          go_wp2_with fail
          go_roundw
          case rel => exact ⟨k + 1, _, by omega, by go_num, HS6.out, HJ2.out, by have := HGR.out.2.1; omega, by have := HGR.out.2.2; omega⟩
          case measure => simp [intOf] <;> omega
        · have hjn := HJN.out
          rw [if_neg he] at hjn
          have he0 : ((DSt.sync sk).2 != 0) = true := by simp [he]
          have HEN := Lib.hid he
          have HJ2 := Lib.hid hjn
          clear hjn he
          go_wp2_with fail
          go_ret
          rw [HJ2.out]
          exact HS6.out.post _
      · dsimp only at hv hf
        subst hv hf
        have hlw := hla.keep hm1 hF0 hS0
        have HW := Lib.hid (layFn_any B g cb cd ca F1 S0 sk A0 n0 c0 m k0 b wr hd1 hBw hlw.h0 hlw.h1 hlw.h2 hlw.lt ⟨fun hx => (hF1 _ hx).elim hF0.1 (fun hge => by have := hla.lt.1; omega), fun hx => (hF1 _ hx).elim hF0.2.1 (fun hge => by have := hla.lt.2.1; omega), fun hx => (hF1 _ hx).elim hF0.2.2 (fun hge => by have := hla.lt.2.2; omega)⟩ hlw.len hlw.sec hlw.cap hlw.most hlw.rd (fun x hx => ⟨fun hxF => (hF1 x hxF).elim (hS0 x hx) (fun hge => by have := hla.old x hx; omega), hlw.old x hx⟩) hlw.m_ hlw.k_ (by omega) (by omega))
        have hbm : b.length / 64 = m := by rw [hla.len, hla.sec]; omega
        have HGR := Lib.hid (((lay_g k0 b sk hok).2).mono (show b.length / 64 ≤ 32768 by rw [hbm]; exact hla.m_))
        have HM1 := Lib.hid hm1
        have HF1 := Lib.hid hF1
        have HJN := Lib.hid hjn
        clear hd1 hm1 hF1 hjn hok hlw hla hbm hS0 hF0
        unfold layV at hc
        go_wp2_with fail
        refine HW.out.mono ?_
        rintro r w6 ⟨rfl, F6, hd6, hm6, hF6⟩
        have HS6 := Lib.hid (dsince_step HM1.out HF1.out hd6 hm6 hF6)
        clear hd6 hm6 hF6
        by_cases he : (jLay k0 b sk).2 = 0
        · have hjn := HJN.out
          rw [if_pos he] at hjn
          have HJ2 := Lib.hid hjn
          rw [he]
          clear hjn he
          go_wp2_with fail
          go_roundw
          case rel => exact ⟨k + 1, _, by omega, by go_num, HS6.out, HJ2.out, by have := HGR.out.2.1; omega, by have := HGR.out.2.2; omega⟩
          case measure => simp [intOf] <;> omega
        · have hjn := HJN.out
          rw [if_neg he] at hjn
          have he0 : ((jLay k0 b sk).2 != 0) = true := by simp [he]
          have HEN := Lib.hid he
          have HJ2 := Lib.hid hjn
          clear hjn he
          go_wp2_with fail
          go_ret
          rw [HJ2.out]
          exact HS6.out.post _
    · have HFI := Lib.hid (show jRun (l.map (·.2)) s = (sk, 0) by
        rw [HJL.out, List.drop_of_length_le (by rw [HN.out]; omega)]
        rfl)
      go_wp2_with fail
      go_ret
      rw [HFI.out]
      exact HSI.out.post _

end Go.Proofs.Ytjmehamkpmimkaa

namespace Go.Proofs.Ytjmehamkpmimkaa
open Go.RowKit

theorem rd_cells_at (w : World) (cs : Array Value) (t : TypeId) {g : Nat} (hg : g = w.heap.size) : Rd (fun j => j = g) (w.alloc (.cells cs t)) (some ⟨g, 0, none⟩) cs.toList := fun _ => by
  subst hg
  exact ⟨_, rfl, rfl, by simp, World.news_of_block (heap_alloc_new w (.cells cs t))⟩

set_option maxHeartbeats 1600000 in
set_option maxRecDepth 100000 in
theorem jlay_any (B0 g k m n c : Nat) (A : Option Addr) (b : List UInt8) (w : World) (ho : w.ownsRow B0 5 1 (.slice A n c) n (b.map bv)) (hn : n = 64 * m) (hm : m ≤ 32768) (hk : k ≤ 70000) (kv : Int) (hkv : kv = k) :
    Calls Try.prog 50 #[.pointer (some ⟨g, 0, none⟩), .int .i64 kv, .slice A n c] w fun r w' => ∃ cb cd ca, r = .returned (layV cb cd ca) ∧ LayAt w' g cb cd ca (fun j => B0 ≤ j ∧ j < w.heap.size) A n c m k b ∧ (w.heap.size ≤ cb ∧ w.heap.size ≤ cd ∧ w.heap.size ≤ ca) ∧ Mod Nil w w' := by
  subst hkv
  have hmf : ∀ (fn : Fn) (first cap : Array Value) (w : World), (Instr.makeFunc fn first cap).run Try.prog w = .ok (.func fn first cap) w := fun _ _ _ _ => rfl
  have HO := Lib.hid ho
  have HNE := Lib.hid hn
  clear ho hn
  go_enter Try.func50, Try.ntmps50
  go_wp2_with fail
  go_ret
  obtain ⟨w3, hw3⟩ : ∃ w3, w3 = ((w.alloc (.cells #[.pointer (some ⟨g, 0, none⟩)] 28)).alloc (.cells #[.int .i64 (k : Int)] 3)).alloc (.cells #[.slice A n c] 36) := ⟨_, rfl⟩
  have hM : Mod Nil w w3 := hw3 ▸ ((((Mod.refl Nil w).alloc _).alloc _).alloc _)
  have hz : w3.heap.size = w.heap.size + 3 := by rw [hw3]; simp
  have b1 : Blk w3 w.heap.size 28 #[.pointer (some ⟨g, 0, none⟩)] := by rw [hw3]; exact ((Blk.new w _ _).alloc _).alloc _
  have b2 : Blk w3 (w.heap.size + 1) 3 #[.int .i64 (k : Int)] := by
    have := (Blk.new (w.alloc (.cells #[.pointer (some ⟨g, 0, none⟩)] 28)) 3 #[.int .i64 (k : Int)]).alloc (.cells #[.slice A n c] 36)
    rw [hw3]
    simpa using this
  have b3 : Blk w3 (w.heap.size + 2) 36 #[.slice A n c] := by
    have := Blk.new ((w.alloc (.cells #[.pointer (some ⟨g, 0, none⟩)] 28)).alloc (.cells #[.int .i64 (k : Int)] 3)) 36 #[.slice A n c]
    rw [hw3]
    simpa using this
  refine ⟨w.heap.size + 2, w.heap.size, w.heap.size + 1, by simp [layV], ?_, ⟨by omega, by omega, by omega⟩, by rw [hw3] at hM; exact hM⟩
  rw [← hw3]
  obtain ⟨A', c', hv, hc1, hc2⟩ := own_slice HO.out
  injection hv with e1 _ e3
  subst e1 e3
  exact ⟨b3.cell 0, b1.cell 0, b2.cell 0, ⟨by omega, by omega, by omega⟩, by have := HO.out.1; simpa using this, HNE.out, hc1, hc2, ((Rd.of_own HO.out).mono (fun j hj hB => ⟨hB, hj⟩)).keep0 hM, fun j hj => by have := hj.2; omega, hm, hk⟩

theorem mark_any2 (kv : Int) (n x : Nat) (w : World) (hkv : kv = n) (hn : n ≤ 1) (hx : x < 4294967296) :
    Calls Try.prog 52 #[.int .i64 kv, .int .u32 (x : Int)] w fun r w' => ∃ A c, r = .returned (.slice A 64 c) ∧ w'.ownsRow w.heap.size 5 1 (.slice A 64 c) 64 ((jMark n x).map bv) ∧ Mod Nil w w' := by
  subst hkv
  refine (mark_any n x w hn hx).mono ?_
  rintro r w' ⟨v, rfl, ho, hm⟩
  obtain ⟨A, c, rfl, _, _⟩ := own_slice ho
  exact ⟨A, c, rfl, ho, hm⟩

theorem DskPost.from_ {B g : Nat} {F : Nat → Prop} {s : DSt} {w w1 w2 : World} {e r : Ending} (h : DskPost B w1 g F s e r w2) (hm : Mod Nil w w1) : DskPost B w g F s e r w2 := by
  obtain ⟨h0, F', h1, h2, h3⟩ := h
  exact ⟨h0, F', h1, hm.any.trans h2, fun k hk => (h3 k hk).elim .inl (fun h => .inr (Nat.le_trans hm.size h))⟩

/-- A step of lay's, told by what it holds, as a step of a disk whose blocks lie below B0. -/
theorem LayAt.step {w : World} {g cb cd ca B0 z : Nat} {F : Nat → Prop} {A : Option Addr} {n c m k : Nat} {b : List UInt8} (h : LayAt w g cb cd ca (fun j => B0 ≤ j ∧ j < z) A n c m k b) (hF : ∀ j, F j → j < B0) (hz : B0 ≤ cb ∧ B0 ≤ cd ∧ B0 ≤ ca) : StepV g F w (layV cb cd ca) (jLay k b) :=
  .inr ⟨cb, cd, ca, _, A, n, c, m, k, b, rfl, rfl, h, ⟨fun hx => by have := hF _ hx; omega, fun hx => by have := hF _ hx; omega, fun hx => by have := hF _ hx; omega⟩, fun j hj hx => by have := hF _ hx; omega⟩

set_option maxHeartbeats 3200000 in
set_option maxRecDepth 100000 in
theorem jput_any (B g : Nat) (F : Nat → Prop) (s : DSt) (A : Option Addr) (n c : Nat) (t : List UInt8) (w : World) (h : DskAt B w g F s) (hB : B ≤ w.heap.size) (ht : t.length = n) (hr : Rd All w A (t.map bv)) (hbig : s.ws.length ≤ 400000) (hl : s.left ≤ 9223372036854775807) :
    Calls Try.prog 16 #[.pointer (some ⟨g, 0, none⟩), .slice A n c] w (DskPost B w g F (jPut t s).1 (.returned (.int .i64 (jPut t s).2))) := by
  have hmf : ∀ (fn : Fn) (first cap : Array Value) (w : World), (Instr.makeFunc fn first cap).run Try.prog w = .ok (.func fn first cap) w := fun _ _ _ _ => rfl
  have HD := Lib.hid h
  have HR := Lib.hid hr
  have HT := Lib.hid ht
  have HF := Lib.hid (fits_any B g F s A n c t w h ht)
  have hsz := h.sized
  have HSZ := Lib.hid hsz
  clear h hr ht hsz
  by_cases hf : jFits s t = 0
  · have HP := Lib.hid (show jPut t s = jRun [jLay 1 (jArea (jA s.secs) t), DSt.sync, jLay 0 (jMark 1 (crcSum (jArea (jA s.secs) t))), DSt.sync, jLay s.home (jArea (jA s.secs) t), DSt.sync, jLay 0 (jMark 0 (crcSum (jArea (jA s.secs) t))), DSt.sync] s by unfold jPut; rw [if_pos hf]; rfl)
    have hroom : n + 12 ≤ 64 * jA s.secs ∧ 4 ≤ s.secs := by
      obtain ⟨p1, p2, _, _⟩ := HSZ.out
      unfold jFits at hf
      by_cases h4 : 4 ≤ s.secs
      · have hr := jRoom_of h4 p2
        rw [hr, HT.out] at hf
        have ha : 1 ≤ jA s.secs := by unfold jA; omega
        rw [if_neg (by omega)] at hf
        by_cases h5 : ((64 * jA s.secs - 12 : Nat) : Int) < (n : Int)
        · rw [if_pos h5] at hf; cases hf
        · exact ⟨by omega, h4⟩
      · have : jRoom s.secs = -1 := by unfold jRoom; rw [if_neg (by omega), if_pos (by omega)]
        rw [this, if_pos (by omega)] at hf
        cases hf
    rw [hf] at HF
    have HAr := Lib.hid (area_any B g F s A n c t w HD.out HT.out hroom.1 HR.out)
    have ha : jA s.secs ≤ 32767 := by have := HSZ.out.2.1; unfold jA; omega
    have hhome : s.home ≤ 70000 := by unfold DSt.home; omega
    obtain ⟨b, hb⟩ : ∃ b, b = jArea (jA s.secs) t := ⟨_, rfl⟩
    have hbl : b.length = 64 * jA s.secs := by rw [hb]; exact jArea_len (by rw [HT.out]; omega)
    have HHO := Lib.hid (fun w' (hw' : Mod Nil w w') => homes_any B g F s w' (HD.out.keep0 hw'))
    obtain ⟨H, hH⟩ : ∃ H, H = s.home := ⟨_, rfl⟩
    obtain ⟨a, ha'⟩ : ∃ a, a = jA s.secs := ⟨_, rfl⟩
    rw [← hb, ← ha'] at HAr
    rw [← hb, ← hH] at HP
    rw [← hH] at HHO hhome
    rw [← ha'] at hbl ha
    have hx := crcSum_lt b
    obtain ⟨x, hxe⟩ : ∃ x, x = crcSum b := ⟨_, rfl⟩
    have hx : x < 4294967296 := by rw [hxe]; simpa using hx
    have HX := Lib.hid hxe
    rw [← hxe] at HP
    have HBL := Lib.hid hbl
    have HFL := Lib.hid (fun j hj => (HD.out.lt j hj).2)
    clear hf hroom hb hH ha' hbl hxe
    go_enter Try.func16, Try.ntmps16
    go_wp2_with fail
    refine HF.out.mono ?_
    rintro r w1 ⟨rfl, rfl⟩
    go_wp2_with fail
    refine HAr.out.mono ?_
    rintro r w1 ⟨v1, rfl, ho1, hm1⟩
    obtain ⟨A1, c1, rfl, _, _⟩ := own_slice ho1
    have HO1 := Lib.hid ho1
    have HM1 := Lib.hid hm1
    have HPA := Lib.hid (parts_one (t := 36) (c := c1) (Rd.of_own ho1) HBL.out (by simp only [maxLen]; omega) (g := w1.heap.size) rfl)
    clear ho1 hm1
    go_wp2_with fail
    refine (sum_any All _ 1 1 [b] _ rfl (by omega) HPA.out).mono ?_
    rintro r w2 ⟨rfl, hw2⟩
    have hsum : crcSum [b].flatten = x := by rw [HX.out]; simp
    rw [hsum]
    have HM2 := Lib.hid (show Mod Nil w w2 from hw2 ▸ (HM1.out.alloc _))
    have HO2 := Lib.hid (show w2.ownsRow w.heap.size 5 1 (.slice A1 (64 * a) c1) (64 * a) (b.map bv) from hw2 ▸ own_keep HO1.out ((Mod.refl Nil w1).alloc _) (fun _ _ => id))
    clear hw2 hsum
    go_wp2_with fail
    refine (jlay_any w.heap.size g 1 a (64 * a) c1 A1 b _ HO2.out rfl (by omega) (by omega) 1 rfl).mono ?_
    rintro r w3 ⟨cb1, cd1, ca1, rfl, hla1, hge1, hm3⟩
    have HL1 := Lib.hid hla1
    have HG1 := Lib.hid hge1
    have HM3 := Lib.hid hm3
    clear hla1 hge1 hm3
    go_wp2_with fail
    refine (mark_any2 1 1 x _ rfl (by omega) hx).mono ?_
    rintro r w4 ⟨A4, c4, rfl, ho4, hm4⟩
    have HO4 := Lib.hid ho4
    have HM4 := Lib.hid hm4
    clear ho4 hm4
    go_wp2_with fail
    refine (jlay_any w3.heap.size g 0 1 64 c4 A4 (jMark 1 x) _ HO4.out rfl (by omega) (by omega) 0 rfl).mono ?_
    rintro r w5 ⟨cb2, cd2, ca2, rfl, hla2, hge2, hm5⟩
    have HL2 := Lib.hid hla2
    have HG2 := Lib.hid hge2
    have HM5 := Lib.hid hm5
    clear hla2 hge2 hm5
    go_wp2_with fail
    refine (HHO.out _ (HM2.out.trans (HM3.out.trans (HM4.out.trans HM5.out)))).mono ?_
    rintro r w6 ⟨rfl, rfl⟩
    go_wp2_with fail
    refine (jlay_any w.heap.size g H a (64 * a) c1 A1 b _ (own_keep HO2.out (HM3.out.trans (HM4.out.trans HM5.out)) (fun _ _ => id)) rfl (by omega) (by omega) H rfl).mono ?_
    rintro r w6 ⟨cb3, cd3, ca3, rfl, hla3, hge3, hm6⟩
    have HL3 := Lib.hid hla3
    have HG3 := Lib.hid hge3
    have HM6 := Lib.hid hm6
    clear hla3 hge3 hm6
    go_wp2_with fail
    refine (mark_any2 0 0 x _ rfl (by omega) hx).mono ?_
    rintro r w7 ⟨A7, c7, rfl, ho7, hm7⟩
    have HO7 := Lib.hid ho7
    have HM7 := Lib.hid hm7
    clear ho7 hm7
    go_wp2_with fail
    refine (jlay_any w6.heap.size g 0 1 64 c7 A7 (jMark 0 x) _ HO7.out rfl (by omega) (by omega) 0 rfl).mono ?_
    rintro r w8 ⟨cb4, cd4, ca4, rfl, hla4, hge4, hm8⟩
    have HL4 := Lib.hid hla4
    have HG4 := Lib.hid hge4
    have HM8 := Lib.hid hm8
    clear hla4 hge4 hm8
    unfold layV
    go_wp2_with fail
    obtain ⟨cells, hcells⟩ : ∃ cells : Array Value, cells = #[layV cb1 cd1 ca1, syncV g, layV cb2 cd2 ca2, syncV g, layV cb3 cd3 ca3, syncV g, layV cb4 cd4 ca4, syncV g] := ⟨_, rfl⟩
    have hMF : Mod Nil w8 (w8.alloc (.cells cells 87)) := (Mod.refl Nil w8).alloc _
    have hM28 : Mod Nil w2 w8 := HM3.out.trans (HM4.out.trans (HM5.out.trans (HM6.out.trans (HM7.out.trans HM8.out))))
    have z3 := HM3.out.size
    have z4 := HM4.out.size
    have z5 := HM5.out.size
    have z6 := HM6.out.size
    have z7 := HM7.out.size
    have z2 := HM2.out.size
    have s1 : StepV g F (w8.alloc (.cells cells 87)) (layV cb1 cd1 ca1) (jLay 1 b) := (HL1.out.keep ((HM4.out.trans (HM5.out.trans (HM6.out.trans (HM7.out.trans HM8.out)))).trans hMF) ⟨id, id, id⟩ (fun _ _ => id)).step HFL.out (by have := HG1.out; omega)
    have s2 : StepV g F (w8.alloc (.cells cells 87)) (layV cb2 cd2 ca2) (jLay 0 (jMark 1 x)) := (HL2.out.keep ((HM6.out.trans (HM7.out.trans HM8.out)).trans hMF) ⟨id, id, id⟩ (fun _ _ => id)).step (fun j hj => by have := HFL.out j hj; omega) (by have := HG2.out; omega)
    have s3 : StepV g F (w8.alloc (.cells cells 87)) (layV cb3 cd3 ca3) (jLay H b) := (HL3.out.keep ((HM7.out.trans HM8.out).trans hMF) ⟨id, id, id⟩ (fun _ _ => id)).step HFL.out (by have := HG3.out; omega)
    have s4 : StepV g F (w8.alloc (.cells cells 87)) (layV cb4 cd4 ca4) (jLay 0 (jMark 0 x)) := (HL4.out.keep hMF ⟨id, id, id⟩ (fun _ _ => id)).step (fun j hj => by have := HFL.out j hj; omega) (by have := HG4.out; omega)
    have sy : StepV g F (w8.alloc (.cells cells 87)) (syncV g) DSt.sync := .inl ⟨rfl, rfl⟩
    have hRD := rd_cells_at w8 cells 87 rfl
    have hMw : Mod Nil w (w8.alloc (.cells cells 87)) := (HM2.out.trans hM28).trans hMF
    have HRUN := run_any B g F (fun j => j = w8.heap.size) s (some ⟨w8.heap.size, 0, none⟩) 8 8 [(layV cb1 cd1 ca1, jLay 1 b), (syncV g, DSt.sync), (layV cb2 cd2 ca2, jLay 0 (jMark 1 x)), (syncV g, DSt.sync), (layV cb3 cd3 ca3, jLay H b), (syncV g, DSt.sync), (layV cb4 cd4 ca4, jLay 0 (jMark 0 x)), (syncV g, DSt.sync)] _ (HD.out.keep0 hMw) (Nat.le_trans hB hMw.size) rfl (by omega) (by rw [hcells] at hRD ⊢; exact hRD) (fun j hj hjF => by have := HFL.out j hjF; have := hM28.size; omega) (by
      intro q hq
      simp only [List.mem_cons, List.not_mem_nil, or_false] at hq
      rcases hq with rfl | rfl | rfl | rfl | rfl | rfl | rfl | rfl
      · exact s1
      · exact sy
      · exact s2
      · exact sy
      · exact s3
      · exact sy
      · exact s4
      · exact sy) hbig hl
    have HRUN2 := HRUN.mono (fun _ _ hp => hp.from_ hMw)
    rw [hcells] at HRUN2
    have HRN := Lib.hid HRUN2
    clear HRUN HRUN2 hRD hMw s1 s2 s3 s4 sy hM28 hMF hcells z2 z3 z4 z5 z6 z7
    refine HRN.out.mono ?_
    rintro r w9 ⟨rfl, F9, hd9, hm9, hF9⟩
    have HD9 := Lib.hid hd9
    have HM9 := Lib.hid hm9
    have HF9 := Lib.hid hF9
    clear hd9 hm9 hF9
    go_wp2_with fail
    go_ret
    rw [HP.out]
    exact ⟨rfl, F9, HD9.out, HM9.out, HF9.out⟩
  · have HP := Lib.hid (show jPut t s = (s, jFits s t) by unfold jPut; rw [if_neg hf])
    have he0 : (jFits s t != 0) = true := by simp [hf]
    have HEN := Lib.hid hf
    clear hf
    go_enter Try.func16, Try.ntmps16
    go_wp2_with fail
    refine HF.out.mono ?_
    rintro r w1 ⟨rfl, rfl⟩
    go_wp2_with fail
    go_ret
    rw [HP.out]
    exact HD.out.post (Mod.refl _ _)

end Go.Proofs.Ytjmehamkpmimkaa

namespace Go.Proofs.Ytjmehamkpmimkaa
open Go.RowKit

set_option maxHeartbeats 3200000 in
set_option maxRecDepth 100000 in
theorem jformat_any (B g : Nat) (F : Nat → Prop) (s : DSt) (A : Option Addr) (n c : Nat) (t : List UInt8) (w : World) (h : DskAt B w g F s) (hB : B ≤ w.heap.size) (ht : t.length = n) (hr : Rd All w A (t.map bv)) (hbig : s.ws.length ≤ 400000) (hl : s.left ≤ 9223372036854775807) :
    Calls Try.prog 24 #[.pointer (some ⟨g, 0, none⟩), .slice A n c] w (DskPost B w g F (jFormat t s).1 (.returned (.int .i64 (jFormat t s).2))) := by
  have hmf : ∀ (fn : Fn) (first cap : Array Value) (w : World), (Instr.makeFunc fn first cap).run Try.prog w = .ok (.func fn first cap) w := fun _ _ _ _ => rfl
  have HD := Lib.hid h
  have HR := Lib.hid hr
  have HT := Lib.hid ht
  have HF := Lib.hid (fits_any B g F s A n c t w h ht)
  have hsz := h.sized
  have HSZ := Lib.hid hsz
  clear h hr ht hsz
  by_cases hf : jFits s t = 0
  · have HP := Lib.hid (show jFormat t s = jRun [jLay s.home (jArea (jA s.secs) t), DSt.sync, jLay 0 (jMark 0 0), DSt.sync] s by unfold jFormat; rw [if_pos hf])
    have hroom : n + 12 ≤ 64 * jA s.secs ∧ 4 ≤ s.secs := by
      obtain ⟨p1, p2, _, _⟩ := HSZ.out
      unfold jFits at hf
      by_cases h4 : 4 ≤ s.secs
      · have hr := jRoom_of h4 p2
        rw [hr, HT.out] at hf
        have ha : 1 ≤ jA s.secs := by unfold jA; omega
        rw [if_neg (by omega)] at hf
        by_cases h5 : ((64 * jA s.secs - 12 : Nat) : Int) < (n : Int)
        · rw [if_pos h5] at hf; cases hf
        · exact ⟨by omega, h4⟩
      · have : jRoom s.secs = -1 := by unfold jRoom; rw [if_neg (by omega), if_pos (by omega)]
        rw [this, if_pos (by omega)] at hf
        cases hf
    rw [hf] at HF
    have HAr := Lib.hid (fun w' (hw' : Mod Nil w w') => area_any B g F s A n c t w' (HD.out.keep0 hw') HT.out hroom.1 (HR.out.keep0 hw'))
    have ha : jA s.secs ≤ 32767 := by have := HSZ.out.2.1; unfold jA; omega
    have hhome : s.home ≤ 70000 := by unfold DSt.home; omega
    obtain ⟨b, hb⟩ : ∃ b, b = jArea (jA s.secs) t := ⟨_, rfl⟩
    have hbl : b.length = 64 * jA s.secs := by rw [hb]; exact jArea_len (by rw [HT.out]; omega)
    have HHO := Lib.hid (fun w' (hw' : Mod Nil w w') => homes_any B g F s w' (HD.out.keep0 hw'))
    obtain ⟨H, hH⟩ : ∃ H, H = s.home := ⟨_, rfl⟩
    obtain ⟨a, ha'⟩ : ∃ a, a = jA s.secs := ⟨_, rfl⟩
    rw [← hb, ← ha'] at HAr
    rw [← hb, ← hH] at HP
    rw [← hH] at HHO hhome
    rw [← ha'] at hbl ha
    have HBL := Lib.hid hbl
    have HFL := Lib.hid (fun j hj => (HD.out.lt j hj).2)
    clear hf hroom hb hH ha' hbl
    go_enter Try.func24, Try.ntmps24
    go_wp2_with fail
    refine HF.out.mono ?_
    rintro r w1 ⟨rfl, rfl⟩
    go_wp2_with fail
    refine (HHO.out _ (Mod.refl _ _)).mono ?_
    rintro r w1 ⟨rfl, rfl⟩
    go_wp2_with fail
    refine (HAr.out _ (Mod.refl _ _)).mono ?_
    rintro r w2 ⟨v1, rfl, ho1, hm1⟩
    obtain ⟨A1, c1, rfl, _, _⟩ := own_slice ho1
    have HO2 := Lib.hid ho1
    have HM2 := Lib.hid hm1
    clear ho1 hm1
    go_wp2_with fail
    refine (jlay_any _ g H a (64 * a) c1 A1 b _ HO2.out rfl (by omega) (by omega) H rfl).mono ?_
    rintro r w3 ⟨cb1, cd1, ca1, rfl, hla1, hge1, hm3⟩
    have HL1 := Lib.hid hla1
    have HG1 := Lib.hid hge1
    have HM3 := Lib.hid hm3
    clear hla1 hge1 hm3
    go_wp2_with fail
    refine (mark_any2 0 0 0 _ rfl (by omega) (by omega)).mono ?_
    rintro r w4 ⟨A4, c4, rfl, ho4, hm4⟩
    have HO4 := Lib.hid ho4
    have HM4 := Lib.hid hm4
    clear ho4 hm4
    go_wp2_with fail
    refine (jlay_any w3.heap.size g 0 1 64 c4 A4 (jMark 0 0) _ HO4.out rfl (by omega) (by omega) 0 rfl).mono ?_
    rintro r w8 ⟨cb2, cd2, ca2, rfl, hla2, hge2, hm5⟩
    have HL2 := Lib.hid hla2
    have HG2 := Lib.hid hge2
    have HM5 := Lib.hid hm5
    clear hla2 hge2 hm5
    unfold layV
    go_wp2_with fail
    obtain ⟨cells, hcells⟩ : ∃ cells : Array Value, cells = #[layV cb1 cd1 ca1, syncV g, layV cb2 cd2 ca2, syncV g] := ⟨_, rfl⟩
    have hMF : Mod Nil w8 (w8.alloc (.cells cells 87)) := (Mod.refl Nil w8).alloc _
    have hM28 : Mod Nil w2 w8 := HM3.out.trans (HM4.out.trans HM5.out)
    have z3 := HM3.out.size
    have z4 := HM4.out.size
    have z2 := HM2.out.size
    have s1 : StepV g F (w8.alloc (.cells cells 87)) (layV cb1 cd1 ca1) (jLay H b) := (HL1.out.keep ((HM4.out.trans HM5.out).trans hMF) ⟨id, id, id⟩ (fun _ _ => id)).step HFL.out (by have := HG1.out; omega)
    have s2 : StepV g F (w8.alloc (.cells cells 87)) (layV cb2 cd2 ca2) (jLay 0 (jMark 0 0)) := (HL2.out.keep hMF ⟨id, id, id⟩ (fun _ _ => id)).step (fun j hj => by have := HFL.out j hj; omega) (by have := HG2.out; omega)
    have sy : StepV g F (w8.alloc (.cells cells 87)) (syncV g) DSt.sync := .inl ⟨rfl, rfl⟩
    have hRD := rd_cells_at w8 cells 87 rfl
    have hMw : Mod Nil w (w8.alloc (.cells cells 87)) := (HM2.out.trans hM28).trans hMF
    have HRUN := run_any B g F (fun j => j = w8.heap.size) s (some ⟨w8.heap.size, 0, none⟩) 4 4 [(layV cb1 cd1 ca1, jLay H b), (syncV g, DSt.sync), (layV cb2 cd2 ca2, jLay 0 (jMark 0 0)), (syncV g, DSt.sync)] _ (HD.out.keep0 hMw) (Nat.le_trans hB hMw.size) rfl (by omega) (by rw [hcells] at hRD ⊢; exact hRD) (fun j hj hjF => by have := HFL.out j hjF; have := hM28.size; omega) (by
      intro q hq
      simp only [List.mem_cons, List.not_mem_nil, or_false] at hq
      rcases hq with rfl | rfl | rfl | rfl
      · exact s1
      · exact sy
      · exact s2
      · exact sy) hbig hl
    have HRUN2 := HRUN.mono (fun _ _ hp => hp.from_ hMw)
    rw [hcells] at HRUN2
    have HRN := Lib.hid HRUN2
    clear HRUN HRUN2 hRD hMw s1 s2 sy hM28 hMF hcells z2 z3 z4
    refine HRN.out.mono ?_
    rintro r w9 ⟨rfl, F9, hd9, hm9, hF9⟩
    have HD9 := Lib.hid hd9
    have HM9 := Lib.hid hm9
    have HF9 := Lib.hid hF9
    clear hd9 hm9 hF9
    go_wp2_with fail
    go_ret
    rw [HP.out]
    exact ⟨rfl, F9, HD9.out, HM9.out, HF9.out⟩
  · have HP := Lib.hid (show jFormat t s = (s, jFits s t) by unfold jFormat; rw [if_neg hf])
    have he0 : (jFits s t != 0) = true := by simp [hf]
    have HEN := Lib.hid hf
    clear hf
    go_enter Try.func24, Try.ntmps24
    go_wp2_with fail
    refine HF.out.mono ?_
    rintro r w1 ⟨rfl, rfl⟩
    go_wp2_with fail
    go_ret
    rw [HP.out]
    exact HD.out.post (Mod.refl _ _)


theorem jput_nil (A : Option Addr) (n c : Nat) (w : World) : Calls Try.prog 16 #[.pointer none, .slice A n c] w fun r w' => r = .returned (.int .i64 2) ∧ w = w' := by
  go_enter Try.func16, Try.ntmps16
  go_wp2_with fail
  refine (fits_nil A n c _).mono ?_
  rintro r w1 ⟨rfl, rfl⟩
  go_wp2_with fail
  go_ret
  exact ⟨rfl, rfl⟩
theorem jrecover_nil (w : World) : Calls Try.prog 17 #[.pointer none] w fun r w' => r = .returned (.int .i64 2) ∧ w = w' := by
  go_enter Try.func17, Try.ntmps17
  go_wp2_with fail
  refine (room_nil _).mono ?_
  rintro r w1 ⟨rfl, rfl⟩
  go_wp2_with fail
  go_ret
  exact ⟨rfl, rfl⟩

end Go.Proofs.Ytjmehamkpmimkaa

namespace Go.Proofs.Ytjmehamkpmimkaa
open Go.RowKit

theorem take_sector (I : List UInt8) (k j : Nat) : (I.drop (64 * k)).take (64 * j) ++ sector I (k + j) = (I.drop (64 * k)).take (64 * (j + 1)) := by
  unfold sector
  rw [show 64 * (j + 1) = 64 * j + 64 by omega, List.take_add, List.drop_drop, show 64 * (k + j) = 64 * k + 64 * j by omega]

set_option maxHeartbeats 3200000 in
set_option maxRecDepth 100000 in
theorem read_any (B g : Nat) (F : Nat → Prop) (s : DSt) (k m : Nat) (w : World) (kv mv : Int) (h : DskAt B w g F s) (hkv : kv = k) (hmv : mv = m) (hfit : 64 * (k + m) ≤ s.S.length) (hk : k ≤ 100000) (hm : m ≤ 100000) (hbig : s.ws.length ≤ 1000000) :
    Calls Try.prog 55 #[.pointer (some ⟨g, 0, none⟩), .int .i64 kv, .int .i64 mv] w fun r w' => ∃ A c, r = .returned (.slice A (64 * m) c) ∧ w'.ownsRow w.heap.size 5 1 (.slice A (64 * m) c) (64 * m) (((s.img.drop (64 * k)).take (64 * m)).map bv) ∧ Mod Nil w w' := by
  subst hkv hmv
  obtain ⟨i0, hi, hz0, hz1, hz2⟩ := info_parts u8_info
  have HD := Lib.hid h
  have himg := h.sized.2.2.2.img
  have HI := Lib.hid himg
  have HFIT := Lib.hid hfit
  clear h himg hfit
  go_enter Try.func55, Try.ntmps55
  go_wp2_with fail
  go_loopw [7, 12] (fun ov iv wr => ∃ (j : Nat), j ≤ m ∧ iv = .int .i64 j ∧ wr.ownsRow w.heap.size 5 1 ov (64 * j) (((s.img.drop (64 * k)).take (64 * j)).map bv) ∧ Mod Nil w wr) (fun _ v _ => m - (intOf v).toNat)
  case atStart => exact ⟨0, Nat.zero_le _, rfl, World.ownsRow_nil _ _ _ _, Mod.refl _ _⟩
  case round =>
    obtain ⟨j, hj, rfl, ho, hmod⟩ := hrel
    obtain ⟨A', c', rfl, _, _⟩ := own_slice ho
    have HO := Lib.hid ho
    have HM := Lib.hid hmod
    clear ho hmod
    by_cases hlt : j < m
    · have ht : s.there ((k + j : Nat) : Int) = true := by
        unfold DSt.there
        have := HFIT.out
        simp
        omega
      have HC := Lib.hid (dskRead_ok B g F s (k + j) wr (HD.out.keep0 HM.out) ht hbig)
      rw [Int.natCast_add] at HC
      clear ht
      go_wp2_with fail
      refine HC.out.mono ?_
      rintro r w2 ⟨v2, rfl, ho2, hm2⟩
      obtain ⟨A2, c2, rfl, _, _⟩ := own_slice ho2
      have HO2 := Lib.hid ho2
      have HM2 := Lib.hid hm2
      clear ho2 hm2
      have HSL := Lib.hid (sector_length (I := s.img) (n := k + j) (by have := HFIT.out; rw [HI.out]; omega))
      go_wp2_with (at_builtin; refine wpList_append1' _ rfl (.tmp 23) (.tmp 24) 36 rfl w.heap.size 5 i0 (.int .u8 0) 1 Try.underlying36 hi hz0 hz1 hz2 rfl (.slice A' (64 * j) c') (64 * j) (((s.img.drop (64 * k)).take (64 * j)).map bv) rfl (own_keep HO.out HM2.out (fun _ _ => id)) (fun j => wr.heap.size ≤ j) A2 64 c2 ((sector s.img (k + j)).map bv) rfl (by rw [List.length_map, HSL.out]) (Rd.of_own HO2.out) (bv_one _) (by omega) (by simp only [maxLen]; omega) (by have := HM.out.size; have := HM2.out.size; omega) ?_; intro A3 c3 w3 hown3 hmod3 hat3; rw [← List.map_append, take_sector] at hown3; have HO3 := Lib.hid (show w3.ownsRow w.heap.size 5 1 (.slice A3 (64 * j + 64) c3) (64 * (j + 1)) (((s.img.drop (64 * k)).take (64 * (j + 1))).map bv) from hown3); have HM3 := Lib.hid (show Mod Nil w w3 from (HM.out.trans HM2.out).trans' hmod3 (fun _ _ h => h) (fun q hq hqv => by have := (HO.out.lt q hqv).1; omega)); clear hown3 hmod3 hat3)
      go_roundw
      case rel => exact ⟨j + 1, by omega, by go_num, HO3.out, HM3.out⟩
      case measure => simp [intOf] <;> omega
    · obtain hjm : j = m := by omega
      have HO2 := Lib.hid (show wr.ownsRow w.heap.size 5 1 (.slice A' (64 * m) c') (64 * m) (((s.img.drop (64 * k)).take (64 * m)).map bv) from hjm ▸ HO.out)
      have HE := Lib.hid (show Value.slice A' (64 * j) c' = Value.slice A' (64 * m) c' by rw [hjm])
      clear hjm
      go_wp2_with fail
      go_ret
      refine ⟨A', c', ?_, HO2.out, HM.out⟩
      show Ending.returned (.slice A' (64 * j) c') = _
      rw [HE.out]

theorem room_cases {s : DSt} (h1 : 1 ≤ s.secs) (h2 : s.secs ≤ 65536) : (jRoom s.secs = -1 ∧ s.secs < 4) ∨ (jRoom s.secs = ((64 * jA s.secs - 12 : Nat) : Int) ∧ 4 ≤ s.secs ∧ 1 ≤ jA s.secs ∧ jA s.secs ≤ 32767 ∧ 1 + 2 * jA s.secs ≤ s.secs) := by
  by_cases h4 : 4 ≤ s.secs
  · exact .inr ⟨jRoom_of h4 h2, h4, by unfold jA; omega, by unfold jA; omega, by unfold jA; omega⟩
  · exact .inl ⟨by unfold jRoom; rw [if_neg (by omega), if_pos (by omega)], by omega⟩

set_option maxHeartbeats 3200000 in
set_option maxRecDepth 100000 in
theorem jget_any (B g : Nat) (F : Nat → Prop) (s : DSt) (w : World) (h : DskAt B w g F s) (hbig : s.ws.length ≤ 1000000) :
    Calls Try.prog 29 #[.pointer (some ⟨g, 0, none⟩)] w fun r w' => ∃ A n c, r = .returned (.tuple #[.slice A n c, .int .i64 (jGet s).2]) ∧ w'.ownsRow w.heap.size 5 1 (.slice A n c) n ((jGet s).1.map bv) ∧ Mod Nil w w' := by
  have HD := Lib.hid h
  obtain ⟨h1, h2, h3, hok⟩ := h.sized
  have HI := Lib.hid hok.img
  have HRM := Lib.hid (room_any B g F s w h)
  rcases room_cases h1 h2 with ⟨hr, h4⟩ | ⟨hr, h4, ha1, ha2, ha3⟩
  · have HG := Lib.hid (show jGet s = ([], 2) by unfold jGet; rw [if_pos (by rw [hr]; decide)])
    rw [hr] at HRM
    clear h hok h3 hr
    go_enter Try.func29, Try.ntmps29
    go_wp2_with fail
    refine HRM.out.mono ?_
    rintro r w1 ⟨rfl, rfl⟩
    go_wp2_with fail
    go_ret2
    rw [HG.out]
    exact ⟨none, 0, 0, rfl, World.ownsRow_nil _ _ _ _, Mod.refl _ _⟩
  · have HHO := Lib.hid (fun w' (hw' : Mod Nil w w') => homes_any B g F s w' (HD.out.keep0 hw'))
    have HSZ := Lib.hid (fun w' (hw' : Mod Nil w w') => dskSize_any B g F s w' (HD.out.keep0 hw'))
    have HAR := Lib.hid (fun w' => areas_any s.secs w' h1 h2)
    have hhm : s.home = 1 + jA s.secs := rfl
    rw [hhm] at HHO
    clear hhm
    obtain ⟨a, ha⟩ : ∃ a, a = jA s.secs := ⟨_, rfl⟩
    rw [← ha] at HHO HAR hr ha1 ha2 ha3
    obtain ⟨R, hR⟩ : ∃ R : Nat, R = 64 * a - 12 := ⟨_, rfl⟩
    rw [← hR] at hr
    have HRD := Lib.hid (fun w' (hw' : Mod Nil w w') => read_any B g F s (1 + a) a w' ((1 + a : Nat) : Int) (a : Int) (HD.out.keep0 hw') rfl rfl (by omega) (by omega) (by omega) hbig)
    have he : (s.img.drop (64 * (1 + a))).take (64 * a) = hmOf a s.img := by unfold hmOf; rw [show 64 * (1 + a) = 64 + 64 * a by omega]
    rw [he] at HRD
    obtain ⟨hm, hhm⟩ : ∃ hm, hm = hmOf a s.img := ⟨_, rfl⟩
    have hml : hm.length = 64 * a := by rw [hhm, hmOf, List.length_take, List.length_drop, HI.out]; omega
    have HG := Lib.hid (show jGet s = if (rNum (hm, 0)).2.2 = 0 ∧ ((rNum (hm, 0)).1 : Int) ≤ R then ((hm.drop 4).take (rNum (hm, 0)).1, 0) else ([], 11) by unfold jGet; rw [hr, if_neg (by omega), ← ha, ← hhm])
    rw [← hhm] at HRD
    rw [hr] at HRM
    have HRR := Lib.hid hR
    have hR1 : R ≤ 2097152 := by omega
    have HML := Lib.hid hml
    have hN := rNum_le (hm, 0)
    obtain ⟨N, hNe⟩ : ∃ N, N = (rNum (hm, 0)).1 := ⟨_, rfl⟩
    obtain ⟨st, hst⟩ : ∃ st, st = (rNum (hm, 0)).2 := ⟨_, rfl⟩
    rw [← hNe, ← hst] at HG
    rw [← hNe] at hN
    have HNE := Lib.hid hNe
    have HST := Lib.hid hst
    clear h hok h3 hr he ha hhm hml hR hNe hst
    rw [Int.natCast_add] at HHO HRD
    go_enter Try.func29, Try.ntmps29
    go_wp2_with fail
    refine HRM.out.mono ?_
    rintro r w1 ⟨rfl, rfl⟩
    go_wp2_with fail
    refine (HHO.out _ (Mod.refl _ _)).mono ?_
    rintro r w1 ⟨rfl, rfl⟩
    go_wp2_with fail
    refine (HSZ.out _ (Mod.refl _ _)).mono ?_
    rintro r w1 ⟨rfl, rfl⟩
    go_wp2_with fail
    refine (HAR.out _).mono ?_
    rintro r w1 ⟨rfl, rfl⟩
    go_wp2_with fail
    refine (HRD.out _ (Mod.refl _ _)).mono ?_
    rintro r w2 ⟨A2, c2, rfl, ho2, hm2⟩
    have HO2 := Lib.hid ho2
    have HM2 := Lib.hid hm2
    clear ho2 hm2
    go_wp2_with fail
    refine (ropen_any A2 (64 * a) c2 hm _ HML.out (by omega) ((Rd.of_own HO2.out).mono (fun _ _ _ => trivial))).mono ?_
    rintro r w3 ⟨S3, g3, rfl, hd3, hs3, hm3⟩
    have HD3 := Lib.hid hd3
    have HM3 := Lib.hid (HM2.out.trans hm3)
    have HS3 := Lib.hid (show w.heap.size ≤ g3 from Nat.le_trans HM2.out.size (hs3 g3 (.inr rfl)).1)
    clear hd3 hs3 hm3
    go_wp2_with fail
    refine (rnum_any S3 g3 (hm, 0) _ HD3.out).mono ?_
    rw [← HNE.out, ← HST.out]
    rintro r w4 ⟨rfl, hd4, hm4⟩
    have HD4 := Lib.hid hd4
    have HM4 := Lib.hid (show Mod Nil w w4 from HM3.out.trans' hm4 (fun _ _ h => h) (fun k hk hkg => by have := HS3.out; omega))
    clear hd4 hm4
    by_cases hst0 : st.2 = 0
    · by_cases hNR : N ≤ R
      · rw [if_pos ⟨hst0, by omega⟩] at HG
        have hRa : R + 12 = 64 * a := by have := HRR.out; omega
        have HST0 := Lib.hid hst0
        go_wp2_with fail
        refine (rerr_any S3 g3 st _ HD4.out).mono ?_
        rintro r w5 ⟨rfl, rfl⟩
        rw [HST0.out]
        clear hst0
        go_wp2_with fail
        refine (HHO.out _ HM4.out).mono ?_
        rintro r w5 ⟨rfl, rfl⟩
        go_wp2_with fail
        refine (HSZ.out _ HM4.out).mono ?_
        rintro r w5 ⟨rfl, rfl⟩
        go_wp2_with fail
        refine (HAR.out _).mono ?_
        rintro r w5 ⟨rfl, rfl⟩
        go_wp2_with fail
        refine (HRD.out _ HM4.out).mono ?_
        rintro r w6 ⟨A6, c6, rfl, ho6, hm6⟩
        obtain ⟨g6, c7, hv, hb6, hlt6⟩ := ho6.form (by omega)
        obtain ⟨_, hc6, hc6b⟩ : True ∧ 64 * a ≤ c6 ∧ c6 ≤ maxLen := by
          obtain ⟨A', c', hv', h1', h2'⟩ := own_slice ho6
          injection hv' with _ _ e3
          subst e3
          exact ⟨trivial, h1', h2'⟩
        injection hv with e1 _ _
        subst e1
        unfold maxLen at hc6b
        have HO6 := Lib.hid ho6
        have HM6 := Lib.hid hm6
        have hne4 : ¬ c6 = 4 := by omega
        clear ho6 hm6
        go_wp2_with fail
        have hcl : ((hm.drop 4).take N).length = N := by rw [List.length_take, List.length_drop, HML.out]; omega
        have hrc : Rd (fun b => w4.heap.size ≤ b) w6 (some ⟨g6, 4, none⟩) (((hm.drop 4).take N).map bv) := by
          have := ((Rd.of_own HO6.out).drop (ad := ⟨g6, 0, none⟩) 4).take N
          rw [← List.map_drop, ← List.map_take] at this
          exact this
        refine (clone_any _ (some ⟨g6, 4, none⟩) N (c7 - 4) ((hm.drop 4).take N) _ hcl (by omega) hrc).mono ?_
        rintro r w8 ⟨v8, rfl, ho8, hm8⟩
        obtain ⟨A8, c8, rfl, _, _⟩ := own_slice ho8
        have HO8 := Lib.hid ho8
        have HM8 := Lib.hid ((HM4.out.trans HM6.out).trans hm8)
        have HZ := Lib.hid (HM4.out.trans HM6.out).size
        clear ho8 hm8 hrc hcl
        go_wp2_with fail
        go_ret2
        rw [HG.out]
        exact ⟨A8, N, c8, rfl, own_base HO8.out HZ.out, HM8.out⟩
      · rw [if_neg (fun hx => hNR (by omega))] at HG
        have HST0 := Lib.hid hst0
        go_wp2_with fail
        refine (rerr_any S3 g3 st _ HD4.out).mono ?_
        rintro r w5 ⟨rfl, rfl⟩
        rw [HST0.out]
        clear hst0
        go_wp2_with fail
        go_ret2
        rw [HG.out]
        exact ⟨none, 0, 0, rfl, World.ownsRow_nil _ _ _ _, HM4.out⟩
    · rw [if_neg (fun hx => hst0 hx.1)] at HG
      have hb0 : (st.2 != 0) = true := by simp [hst0]
      have HSN := Lib.hid hst0
      clear hst0
      go_wp2_with fail
      refine (rerr_any S3 g3 st _ HD4.out).mono ?_
      rintro r w5 ⟨rfl, rfl⟩
      go_wp2_with fail
      go_ret2
      rw [HG.out]
      exact ⟨none, 0, 0, rfl, World.ownsRow_nil _ _ _ _, HM4.out⟩

end Go.Proofs.Ytjmehamkpmimkaa

namespace Go.Proofs.Ytjmehamkpmimkaa
open Go.RowKit

theorem said_join (u0 u1 u2 u3 : UInt8) : bits .or .u32 (bits .or .u32 (bits .or .u32 (u0.toNat : Int) ((u1.toNat : Int) * 256)) ((u2.toNat : Int) * 65536)) ((u3.toNat : Int) * 16777216) = ((u0.toNat + 256 * u1.toNat + 65536 * u2.toNat + 16777216 * u3.toNat : Nat) : Int) := by
  have b0 := u0.toNat_lt
  have b1 := u1.toNat_lt
  have b2 := u2.toNat_lt
  have b3 := u3.toNat_lt
  rw [u32_or8 (u0.toNat : Int) ((u1.toNat : Int) * 256) (by omega) (by omega) (by omega) (by omega) (by omega), u32_or16 ((u0.toNat : Int) + (u1.toNat : Int) * 256) ((u2.toNat : Int) * 65536) (by omega) (by omega) (by omega) (by omega) (by omega), u32_or24 ((u0.toNat : Int) + (u1.toNat : Int) * 256 + (u2.toNat : Int) * 65536) ((u3.toNat : Int) * 16777216) (by omega) (by omega) (by omega) (by omega) (by omega)]
  omega
theorem said_of {O : List UInt8} {u0 u1 u2 u3 : UInt8} (h0 : O[8]? = some u0) (h1 : O[9]? = some u1) (h2 : O[10]? = some u2) (h3 : O[11]? = some u3) : saidOf O = u0.toNat + 256 * u1.toNat + 65536 * u2.toNat + 16777216 * u3.toNat := by
  unfold saidOf leVal4
  simp only [List.getD_eq_getElem?_getD, List.getElem?_drop, Nat.reduceAdd, h0, h1, h2, h3, Option.getD_some]

set_option maxHeartbeats 3200000 in
set_option maxRecDepth 100000 in
theorem jrecover_any (B g : Nat) (F : Nat → Prop) (s : DSt) (w : World) (h : DskAt B w g F s) (hB : B ≤ w.heap.size) (hbig : s.ws.length ≤ 400000) (hl : s.left ≤ 9223372036854775807) :
    Calls Try.prog 17 #[.pointer (some ⟨g, 0, none⟩)] w (DskPost B w g F (jRecover s).1 (.returned (.int .i64 (jRecover s).2))) := by
  have hmf : ∀ (fn : Fn) (first cap : Array Value) (w : World), (Instr.makeFunc fn first cap).run Try.prog w = .ok (.func fn first cap) w := fun _ _ _ _ => rfl
  have HD := Lib.hid h
  obtain ⟨h1, h2, h3, hok⟩ := h.sized
  have HI := Lib.hid hok.img
  have HRM := Lib.hid (room_any B g F s w h)
  have HFL := Lib.hid (fun j hj => (h.lt j hj).2)
  rcases room_cases h1 h2 with ⟨hr, h4⟩ | ⟨hr, h4, ha1, ha2, ha3⟩
  · have HG := Lib.hid (show jRecover s = (s, 2) by unfold jRecover; rw [if_pos (by rw [hr]; decide)])
    rw [hr] at HRM
    clear h hok h3 hr
    go_enter Try.func17, Try.ntmps17
    go_wp2_with fail
    refine HRM.out.mono ?_
    rintro r w1 ⟨rfl, rfl⟩
    go_wp2_with fail
    go_ret
    rw [HG.out]
    exact HD.out.post (Mod.refl _ _)
  · have HHO := Lib.hid (fun w' (hw' : Mod Nil w w') => homes_any B g F s w' (HD.out.keep0 hw'))
    have HSZ := Lib.hid (fun w' (hw' : Mod Nil w w') => dskSize_any B g F s w' (HD.out.keep0 hw'))
    have HAR := Lib.hid (fun w' => areas_any s.secs w' h1 h2)
    obtain ⟨a, ha⟩ : ∃ a, a = jA s.secs := ⟨_, rfl⟩
    have hH : s.home ≤ 70000 := by unfold DSt.home; omega
    have hRn : ¬ jRoom s.secs < 0 := by rw [hr]; omega
    rw [← ha] at HAR hr ha1 ha2 ha3
    obtain ⟨R, hR⟩ : ∃ R : Nat, R = 64 * a - 12 := ⟨_, rfl⟩
    rw [← hR] at hr
    have HRD := Lib.hid (fun w' (hw' : Mod Nil w w') => read_any B g F s 1 a w' 1 (a : Int) (HD.out.keep0 hw') rfl rfl (by omega) (by omega) (by omega) (by omega))
    have HRD0 := Lib.hid (fun w' (hw' : Mod Nil w w') => read_any B g F s 0 1 w' 0 1 (HD.out.keep0 hw') rfl rfl (by omega) (by omega) (by omega) (by omega))
    obtain ⟨b, hb⟩ : ∃ b, b = jnOf a s.img := ⟨_, rfl⟩
    obtain ⟨O, hO⟩ : ∃ O, O = sector s.img 0 := ⟨_, rfl⟩
    have hbl : b.length = 64 * a := by rw [hb, jnOf, List.length_take, List.length_drop, HI.out]; omega
    have hOl : O.length = 64 := by rw [hO]; exact sector_length (by rw [HI.out]; omega)
    rw [show (s.img.drop (64 * 1)).take (64 * a) = b from hb.symm] at HRD
    rw [show (s.img.drop (64 * 0)).take (64 * 1) = O from hO.symm] at HRD0
    rw [hr] at HRM
    have hx := crcSum_lt b
    obtain ⟨x, hxe⟩ : ∃ x, x = crcSum b := ⟨_, rfl⟩
    have hx : x < 4294967296 := by rw [hxe]; simpa using hx
    obtain ⟨H, hHe⟩ : ∃ H, H = s.home := ⟨_, rfl⟩
    have HG := Lib.hid (show jRecover s = if O = jMark 1 x then jRun [DSt.sync, jLay H b, DSt.sync, jLay 0 (jMark 0 x), DSt.sync] s else if O = jMark 0 (saidOf O) then (s, 0) else jRun [jLay 0 (jMark 0 0), DSt.sync] s by unfold jRecover; rw [if_neg hRn, ← ha, ← hb, ← hO, ← hxe, ← hHe])
    rw [← hHe] at HHO hH
    have HX := Lib.hid hxe
    have HBL := Lib.hid hbl
    have HOL := Lib.hid hOl
    clear h hok h3 hr hRn ha hb hO hbl hOl hR hxe hHe
    go_enter Try.func17, Try.ntmps17
    go_wp2_with fail
    refine HRM.out.mono ?_
    rintro r w1 ⟨rfl, rfl⟩
    go_wp2_with fail
    refine (HSZ.out _ (Mod.refl _ _)).mono ?_
    rintro r w1 ⟨rfl, rfl⟩
    go_wp2_with fail
    refine (HAR.out _).mono ?_
    rintro r w1 ⟨rfl, rfl⟩
    go_wp2_with fail
    refine (HRD.out _ (Mod.refl _ _)).mono ?_
    rintro r w2 ⟨A2, c2, rfl, ho2, hm2⟩
    have HO2 := Lib.hid ho2
    have HM2 := Lib.hid hm2
    have HPA := Lib.hid (parts_one (t := 36) (c := c2) (Rd.of_own ho2) HBL.out (by simp only [maxLen]; omega) (g := w2.heap.size) rfl)
    clear ho2 hm2
    go_wp2_with fail
    refine (sum_any All _ 1 1 [b] _ rfl (by omega) HPA.out).mono ?_
    rintro r w3 ⟨rfl, hw3⟩
    have hsum : crcSum [b].flatten = x := by rw [HX.out]; simp
    rw [hsum]
    have HM3 := Lib.hid (show Mod Nil w w3 from hw3 ▸ (HM2.out.alloc _))
    have HO3 := Lib.hid (show w3.ownsRow w.heap.size 5 1 (.slice A2 (64 * a) c2) (64 * a) (b.map bv) from hw3 ▸ own_keep HO2.out ((Mod.refl Nil w2).alloc _) (fun _ _ => id))
    clear hw3 hsum HPA
    go_wp2_with fail
    refine (HRD0.out _ HM3.out).mono ?_
    rintro r w4 ⟨A4, c4, rfl, ho4, hm4⟩
    have HO4 := Lib.hid (show w4.ownsRow w3.heap.size 5 1 (.slice A4 64 c4) 64 (O.map bv) from ho4)
    have HM4 := Lib.hid hm4
    clear ho4 hm4
    go_wp2_with fail
    refine (mark_any2 1 1 x _ rfl (by omega) hx).mono ?_
    rintro r w5 ⟨A5, c5, rfl, ho5, hm5⟩
    have HO5 := Lib.hid ho5
    have HM5 := Lib.hid hm5
    clear ho5 hm5
    go_wp2_with fail
    refine (equal_any _ _ A4 A5 64 c4 64 c5 O (jMark 1 x) _ HOL.out (jMark_len 1 x) (Rd.of_own (own_keep HO4.out HM5.out (fun _ _ => id))) (Rd.of_own HO5.out)).mono ?_
    rintro r w6 ⟨rfl, rfl⟩
    by_cases hq : O = jMark 1 x
    · rw [if_pos hq] at HG
      rw [show decide (O = jMark 1 x) = true by simp [hq]]
      have HQ := Lib.hid hq
      clear hq
      go_wp2_with fail
      refine (HHO.out _ (HM3.out.trans (HM4.out.trans HM5.out))).mono ?_
      rintro r w6 ⟨rfl, rfl⟩
      go_wp2_with fail
      refine (jlay_any w.heap.size g H a (64 * a) c2 A2 b _ (own_keep HO3.out (HM4.out.trans HM5.out) (fun _ _ => id)) rfl (by omega) (by omega) H rfl).mono ?_
      rintro r w6 ⟨cb3, cd3, ca3, rfl, hla3, hge3, hm6⟩
      have HL3 := Lib.hid hla3
      have HG3 := Lib.hid hge3
      have HM6 := Lib.hid hm6
      clear hla3 hge3 hm6
      go_wp2_with fail
      refine (mark_any2 0 0 x _ rfl (by omega) hx).mono ?_
      rintro r w7 ⟨A7, c7, rfl, ho7, hm7⟩
      have HO7 := Lib.hid ho7
      have HM7 := Lib.hid hm7
      clear ho7 hm7
      go_wp2_with fail
      refine (jlay_any w6.heap.size g 0 1 64 c7 A7 (jMark 0 x) _ HO7.out rfl (by omega) (by omega) 0 rfl).mono ?_
      rintro r w8 ⟨cb4, cd4, ca4, rfl, hla4, hge4, hm8⟩
      have HL4 := Lib.hid hla4
      have HG4 := Lib.hid hge4
      have HM8 := Lib.hid hm8
      clear hla4 hge4 hm8
      unfold layV
      go_wp2_with fail
      obtain ⟨cells, hcells⟩ : ∃ cells : Array Value, cells = #[syncV g, layV cb3 cd3 ca3, syncV g, layV cb4 cd4 ca4, syncV g] := ⟨_, rfl⟩
      have hMF : Mod Nil w8 (w8.alloc (.cells cells 87)) := (Mod.refl Nil w8).alloc _
      have hM38 : Mod Nil w3 w8 := HM4.out.trans (HM5.out.trans (HM6.out.trans (HM7.out.trans HM8.out)))
      have z4 := HM4.out.size
      have z5 := HM5.out.size
      have z6 := HM6.out.size
      have z7 := HM7.out.size
      have z3 := HM3.out.size
      have s3 : StepV g F (w8.alloc (.cells cells 87)) (layV cb3 cd3 ca3) (jLay H b) := (HL3.out.keep ((HM7.out.trans HM8.out).trans hMF) ⟨id, id, id⟩ (fun _ _ => id)).step HFL.out (by have := HG3.out; omega)
      have s4 : StepV g F (w8.alloc (.cells cells 87)) (layV cb4 cd4 ca4) (jLay 0 (jMark 0 x)) := (HL4.out.keep hMF ⟨id, id, id⟩ (fun _ _ => id)).step (fun j hj => by have := HFL.out j hj; omega) (by have := HG4.out; omega)
      have sy : StepV g F (w8.alloc (.cells cells 87)) (syncV g) DSt.sync := .inl ⟨rfl, rfl⟩
      have hRD := rd_cells_at w8 cells 87 rfl
      have hMw : Mod Nil w (w8.alloc (.cells cells 87)) := (HM3.out.trans hM38).trans hMF
      have HRUN := run_any B g F (fun j => j = w8.heap.size) s (some ⟨w8.heap.size, 0, none⟩) 5 5 [(syncV g, DSt.sync), (layV cb3 cd3 ca3, jLay H b), (syncV g, DSt.sync), (layV cb4 cd4 ca4, jLay 0 (jMark 0 x)), (syncV g, DSt.sync)] _ (HD.out.keep0 hMw) (Nat.le_trans hB hMw.size) rfl (by omega) (by rw [hcells] at hRD ⊢; exact hRD) (fun j hj hjF => by have := HFL.out j hjF; have := hM38.size; omega) (by
        intro q hq
        simp only [List.mem_cons, List.not_mem_nil, or_false] at hq
        rcases hq with rfl | rfl | rfl | rfl | rfl
        · exact sy
        · exact s3
        · exact sy
        · exact s4
        · exact sy) hbig hl
      have HRUN2 := HRUN.mono (fun _ _ hp => hp.from_ hMw)
      rw [hcells] at HRUN2
      have HRN := Lib.hid HRUN2
      clear HRUN HRUN2 hRD hMw s3 s4 sy hM38 hMF hcells z3 z4 z5 z6 z7
      refine HRN.out.mono ?_
      rintro r w9 ⟨rfl, F9, hd9, hm9, hF9⟩
      have HD9 := Lib.hid hd9
      have HM9 := Lib.hid hm9
      have HF9 := Lib.hid hF9
      clear hd9 hm9 hF9
      go_wp2_with fail
      go_ret
      rw [HG.out]
      exact ⟨rfl, F9, HD9.out, HM9.out, HF9.out⟩
    · rw [if_neg hq] at HG
      rw [show decide (O = jMark 1 x) = false by simp [hq]]
      have HQ := Lib.hid hq
      clear hq
      obtain ⟨g4, c7, hv, hb4, hlt4⟩ := HO4.out.form (by omega)
      injection hv with e1 _ _
      subst e1
      obtain ⟨u0, u1, u2, u3, hu0, hu1, hu2, hu3⟩ : ∃ u0 u1 u2 u3, O[8]? = some u0 ∧ O[9]? = some u1 ∧ O[10]? = some u2 ∧ O[11]? = some u3 := ⟨_, _, _, _, List.getElem?_eq_getElem (by rw [HOL.out]; omega), List.getElem?_eq_getElem (by rw [HOL.out]; omega), List.getElem?_eq_getElem (by rw [HOL.out]; omega), List.getElem?_eq_getElem (by rw [HOL.out]; omega)⟩
      have hcl := (own_keep HO4.out HM5.out (fun _ _ => id)).cells (g := g4) rfl
      have q0 := hcl 8 (bv u0) (by rw [List.getElem?_map, hu0]; rfl)
      have q1 := hcl 9 (bv u1) (by rw [List.getElem?_map, hu1]; rfl)
      have q2 := hcl 10 (bv u2) (by rw [List.getElem?_map, hu2]; rfl)
      have q3 := hcl 11 (bv u3) (by rw [List.getElem?_map, hu3]; rfl)
      unfold bv at q0 q1 q2 q3
      rw [Addr.add_lit, Nat.zero_add] at q0 q1 q2 q3
      have b0 := u0.toNat_lt
      have b1 := u1.toNat_lt
      have b2 := u2.toNat_lt
      have b3 := u3.toNat_lt
      clear hcl
      go_wp2_with (go_quiet (fail))
      rw [said_join]
      obtain ⟨y, hy⟩ : ∃ y, y = u0.toNat + 256 * u1.toNat + 65536 * u2.toNat + 16777216 * u3.toNat := ⟨_, rfl⟩
      have hyl : y < 4294967296 := by omega
      rw [← hy]
      rw [said_of hu0 hu1 hu2 hu3, ← hy] at HG
      clear hy q0 q1 q2 q3 b0 b1 b2 b3 hu0 hu1 hu2 hu3
      have HM6 := Lib.hid (show Mod Nil w5 (w5.drewN nq) from (Mod.refl Nil w5).drewN nq)
      refine (mark_any2 0 0 y _ rfl (by omega) hyl).mono ?_
      rintro r w7 ⟨A7, c8, rfl, ho7, hm7⟩
      have HO7 := Lib.hid ho7
      have HM7 := Lib.hid hm7
      clear ho7 hm7
      go_wp2_with fail
      refine (equal_any _ _ (some ⟨g4, 0, none⟩) A7 64 c7 64 c8 O (jMark 0 y) _ HOL.out (jMark_len 0 y) (Rd.of_own (own_keep HO4.out (HM5.out.trans (HM6.out.trans HM7.out)) (fun _ _ => id))) (Rd.of_own HO7.out)).mono ?_
      rintro r w8 ⟨rfl, rfl⟩
      by_cases hp : O = jMark 0 y
      · rw [if_pos hp] at HG
        rw [show decide (O = jMark 0 y) = true by simp [hp]]
        have HP := Lib.hid hp
        clear hp
        go_wp2_with fail
        go_ret
        rw [HG.out]
        exact (HD.out.keep0 (HM3.out.trans (HM4.out.trans (HM5.out.trans (HM6.out.trans HM7.out))))).post (HM3.out.trans (HM4.out.trans (HM5.out.trans (HM6.out.trans HM7.out)))).any
      · rw [if_neg hp] at HG
        rw [show decide (O = jMark 0 y) = false by simp [hp]]
        have HP := Lib.hid hp
        clear hp
        go_wp2_with fail
        refine (mark_any2 0 0 0 _ rfl (by omega) (by omega)).mono ?_
        rintro r w8 ⟨A8, c9, rfl, ho8, hm8⟩
        have HO8 := Lib.hid ho8
        have HM8 := Lib.hid hm8
        clear ho8 hm8
        go_wp2_with fail
        refine (jlay_any w7.heap.size g 0 1 64 c9 A8 (jMark 0 0) _ HO8.out rfl (by omega) (by omega) 0 rfl).mono ?_
        rintro r w10 ⟨cb4, cd4, ca4, rfl, hla4, hge4, hm9⟩
        have HL4 := Lib.hid hla4
        have HG4 := Lib.hid hge4
        have HM9 := Lib.hid hm9
        clear hla4 hge4 hm9
        unfold layV
        go_wp2_with fail
        obtain ⟨cells, hcells⟩ : ∃ cells : Array Value, cells = #[layV cb4 cd4 ca4, syncV g] := ⟨_, rfl⟩
        have hMF : Mod Nil w10 (w10.alloc (.cells cells 87)) := (Mod.refl Nil w10).alloc _
        have hM : Mod Nil w w7 := HM3.out.trans (HM4.out.trans (HM5.out.trans (HM6.out.trans HM7.out)))
        have z7 := hM.size
        have z8 := HM8.out.size
        have z9 := HM9.out.size
        have s4 : StepV g F (w10.alloc (.cells cells 87)) (layV cb4 cd4 ca4) (jLay 0 (jMark 0 0)) := (HL4.out.keep hMF ⟨id, id, id⟩ (fun _ _ => id)).step (fun j hj => by have := HFL.out j hj; omega) (by have := HG4.out; omega)
        have sy : StepV g F (w10.alloc (.cells cells 87)) (syncV g) DSt.sync := .inl ⟨rfl, rfl⟩
        have hRD := rd_cells_at w10 cells 87 rfl
        have hMw : Mod Nil w (w10.alloc (.cells cells 87)) := (hM.trans (HM8.out.trans HM9.out)).trans hMF
        have HRUN := run_any B g F (fun j => j = w10.heap.size) s (some ⟨w10.heap.size, 0, none⟩) 2 2 [(layV cb4 cd4 ca4, jLay 0 (jMark 0 0)), (syncV g, DSt.sync)] _ (HD.out.keep0 hMw) (Nat.le_trans hB hMw.size) rfl (by omega) (by rw [hcells] at hRD ⊢; exact hRD) (fun j hj hjF => by have := HFL.out j hjF; omega) (by
          intro q hq
          simp only [List.mem_cons, List.not_mem_nil, or_false] at hq
          rcases hq with rfl | rfl
          · exact s4
          · exact sy) hbig hl
        have HRUN2 := HRUN.mono (fun _ _ hp => hp.from_ hMw)
        rw [hcells] at HRUN2
        have HRN := Lib.hid HRUN2
        clear HRUN HRUN2 hRD hMw s4 sy hM hMF hcells z7 z8 z9
        refine HRN.out.mono ?_
        rintro r w11 ⟨rfl, F9, hd9, hm9, hF9⟩
        have HD9 := Lib.hid hd9
        have HM10 := Lib.hid hm9
        have HF9 := Lib.hid hF9
        clear hd9 hm9 hF9
        go_wp2_with fail
        go_ret
        rw [HG.out]
        exact ⟨rfl, F9, HD9.out, HM10.out, HF9.out⟩

end Go.Proofs.Ytjmehamkpmimkaa

namespace Go.Proofs.Ytjmehamkpmimkaa
open Go.RowKit

/-- A new disk of n sectors. -/
def newS (n : Nat) : DSt := ⟨List.replicate (64 * n) 0, [], -1⟩
theorem newS_sized {n : Nat} (h4 : 4 ≤ n) (hn : n ≤ 65536) : Sized (jA n) (64 * n) (newS n) := by
  have hl : (newS n).S.length = 64 * n := by simp [newS]
  have hs : (newS n).secs = n := by unfold DSt.secs; rw [hl]; omega
  exact ⟨hl, by unfold jA; omega, by unfold jA; omega, by rw [hs], by omega, by omega⟩

theorem Stood.to_put {a N : Nat} {s : DSt} {X t : List UInt8} {r : DSt × Int} (hz : Sized a N s) (h : Stood a N X r) (hl : r.1.left = -1) (ht : t.length + 12 ≤ 64 * a) : Stood a N (jArea a t) (jPut t r.1) := by
  rcases put_safe (hz.to h.2.2.1) ht h.2.1 h.2.2.2.1 h.2.2.2.2 with h1 | ⟨_, h2⟩
  · exact h1
  · exact absurd hl h2

set_option maxHeartbeats 3200000 in
set_option maxRecDepth 100000 in
theorem awake4_any (w : World) : Calls Try.prog 9 #[] w fun r w' => r = .returned (.bool true) ∧ Mod Nil w w' := by
  have hz := newS_sized (n := 10) (by omega) (by omega)
  have hA : jA 10 = 4 := by decide
  rw [hA] at hz
  obtain ⟨hf1, hf2⟩ := format_stood (t := [97]) hz (by simp) rfl rfl
  have hp := hf1.to_put (t := [98, 99]) hz hf2 (by simp)
  have hg := hp.get (hz.to hf1.2.2.1) (by simp)
  have HR := Lib.hid (show jRoom 10 = 244 by decide)
  have HN := Lib.hid (dskNew_ok 10 w (by omega) (by omega))
  rw [show (⟨List.replicate (64 * 10) 0, [], -1⟩ : DSt) = newS 10 from rfl] at HN
  obtain ⟨s0, hs0⟩ : ∃ s0, s0 = newS 10 := ⟨_, rfl⟩
  rw [← hs0] at hf1 hf2 hp hg HN
  have hw0 : s0.ws.length ≤ 400000 ∧ s0.left ≤ 9223372036854775807 := by rw [hs0]; simp [newS]
  have HW0 := Lib.hid hw0
  have HF1 := Lib.hid hf1
  have HF2 := Lib.hid hf2
  have HP := Lib.hid hp
  have HG := Lib.hid hg
  clear hz hA hf1 hf2 hp hg hs0 hw0
  have kc := fun (w : World) (C : Array Value) (n c : Nat) => Lib.run_convert_bytes_const (P := Try.prog) w 36 5 C n c Try.underlying36 Try.underlying5
  go_enter Try.func9, Try.ntmps9
  go_wp2_with fail
  refine (Room_any 10 _).mono ?_
  rintro r w1 ⟨rfl, rfl⟩
  rw [HR.out]
  go_wp2_with fail
  refine HN.out.mono ?_
  rintro r w1 ⟨g, F, rfl, hd1, hm1⟩
  have HD1 := Lib.hid hd1
  have HM1 := Lib.hid hm1
  clear hd1 hm1
  go_wp2_with fail
  have hM2 : Mod Nil w1 (w1.alloc (.cells #[.int .u8 97] 5 (1, 2))) := (Mod.refl Nil w1).alloc _
  refine (jformat_any w.heap.size g F s0 (some ⟨w1.heap.size, 0, none⟩) 1 1 [97] _ (HD1.out.keep0 hM2) (by have := HM1.out.size; simp; omega) rfl (Rd.cells w1 #[.int .u8 97] 5 (1, 2) rfl) HW0.out.1 HW0.out.2).mono ?_
  rintro r w2 ⟨rfl, F2, hd2, hm2, hF2⟩
  obtain ⟨s1, hs1⟩ : ∃ s1, s1 = (jFormat [97] s0).1 := ⟨_, rfl⟩
  rw [HF1.out.1]
  rw [← hs1] at hd2
  have HS1 := Lib.hid hs1
  have HD2 := Lib.hid hd2
  have HM2 := Lib.hid ((HM1.out.trans hM2).disk (HD1.out.keep0 hM2) hm2 (Nat.le_refl _))
  clear hs1 hd2 hm2 hF2 hM2
  go_wp2_with fail
  have hM3 : Mod Nil w2 (w2.alloc (.cells #[.int .u8 98, .int .u8 99] 5 (2, 3))) := (Mod.refl Nil w2).alloc _
  have hw1 : s1.ws = [] := by rw [HS1.out]; exact HF1.out.2.1
  have hl1 : s1.left = -1 := by rw [HS1.out]; exact HF2.out
  refine (jput_any w.heap.size g F2 s1 (some ⟨w2.heap.size, 0, none⟩) 2 2 [98, 99] _ (HD2.out.keep0 hM3) (by have := HM2.out.size; simp; omega) rfl (Rd.cells w2 #[.int .u8 98, .int .u8 99] 5 (2, 3) rfl) (by rw [hw1]; simp) (by omega)).mono ?_
  rintro r w3 ⟨rfl, F3, hd3, hm3, hF3⟩
  rw [← HS1.out] at HP HG
  obtain ⟨s2, hs2⟩ : ∃ s2, s2 = (jPut [98, 99] s1).1 := ⟨_, rfl⟩
  rw [HP.out.1]
  rw [← hs2] at hd3 HG
  have hw2 : s2.ws = [] := by rw [hs2]; exact HP.out.2.1
  have HW2 := Lib.hid hw2
  have HD3 := Lib.hid hd3
  have HM3 := Lib.hid ((HM2.out.trans hM3).disk (HD2.out.keep0 hM3) hm3 (Nat.le_refl _))
  clear hs2 hd3 hm3 hF3 hM3 hw1 hl1 hw2
  go_wp2_with fail
  refine (jget_any w.heap.size g F3 s2 _ HD3.out (by rw [HW2.out]; simp)).mono ?_
  rw [HG.out]
  rintro r w4 ⟨A4, n4, c4, rfl, ho4, hm4⟩
  have hn4 : n4 = 2 := by have := ho4.1; simpa using this.symm
  subst hn4
  have k4 := conv_bytes (l := [98, 99]) (n := 2) (Rd.of_own ho4) rfl c4
  have HM4 := Lib.hid (HM3.out.trans hm4)
  have hb : ((str [98, 99]).toList == [98, 99]) = true := by rw [ByteArray.toList_eq, str_list]; rfl
  clear ho4 hm4
  go_wp2_with fail
  go_ret
  exact ⟨rfl, HM4.out⟩

theorem refRoom4_any (x : Int) (w : World) :
    Calls Try.prog 11 #[.int .i64 x] w fun r w' => r = .returned (.int .i64 (jRoom x)) ∧ w = w' := by
  by_cases h1 : x < 1
  · have HR := Lib.hid (show jRoom x = -1 by unfold jRoom; rw [if_pos (.inl h1)])
    go_enter Try.func11, Try.ntmps11
    go_wp2_with fail
    go_ret
    exact ⟨ret_int HR.out.symm, rfl⟩
  by_cases h2 : 65536 < x
  · have HR := Lib.hid (show jRoom x = -1 by unfold jRoom; rw [if_pos (.inr h2)])
    go_enter Try.func11, Try.ntmps11
    go_wp2_with fail
    go_ret
    exact ⟨ret_int HR.out.symm, rfl⟩
  obtain ⟨M, rfl⟩ := Int.eq_ofNat_of_zero_le (show 0 ≤ x by omega)
  have hM1 : 1 ≤ M := by omega
  have hM2 : M ≤ 65536 := by omega
  have hj : jA M ≤ 32767 := by unfold jA; omega
  have ht : Int.tdiv ((M : Int) - 2) 2 = ((jA M : Nat) : Int) := by
    unfold jA
    rcases Nat.lt_or_ge M 2 with h | h
    · obtain rfl : M = 1 := by omega
      rfl
    · rw [Int.tdiv_eq_ediv_of_nonneg (by omega)]
      omega
  by_cases h4 : M < 4
  · have HR := Lib.hid (show jRoom M = -1 by unfold jRoom; rw [if_neg (by omega), if_pos (by omega)])
    have hj0 : jA M = 0 := by unfold jA; omega
    rw [hj0] at ht
    clear hj0
    go_enter Try.func11, Try.ntmps11
    go_wp2_with fail
    go_ret
    exact ⟨ret_int HR.out.symm, rfl⟩
  · have HR := Lib.hid (show jRoom M = (jA M : Nat) * 64 - 12 by unfold jRoom jA; rw [if_neg (by omega), if_neg (by omega)]; omega)
    have hj0 : 1 ≤ jA M := by unfold jA; omega
    obtain ⟨a, ha⟩ : ∃ a, a = jA M := ⟨_, rfl⟩
    rw [← ha] at HR hj hj0 ht
    clear ha
    go_enter Try.func11, Try.ntmps11
    go_wp2_with fail
    go_ret
    exact ⟨ret_int HR.out.symm, rfl⟩

set_option maxRecDepth 100000 in
theorem journalRooms_walk (x : Int) (w : World) :
    Calls Try.prog 3 #[.int .i64 x] w fun r w' => r = .returned (.bool true) ∧ Mod Nil w w' := by
  go_enter Try.func3, Try.ntmps3
  go_wp2_with fail
  refine (awake4_any _).mono ?_
  rintro r w1 ⟨rfl, hm1⟩
  have HM1 := Lib.hid hm1
  clear hm1
  go_wp2_with fail
  refine (Room_any x _).mono ?_
  rintro r w2 ⟨rfl, rfl⟩
  go_wp2_with fail
  refine (refRoom4_any x _).mono ?_
  rintro r w2 ⟨rfl, rfl⟩
  go_wp2_with fail
  go_ret
  exact ⟨rfl, HM1.out⟩

end Go.Proofs.Ytjmehamkpmimkaa
