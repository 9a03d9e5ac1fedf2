/- The walk of the law JournalCrashes: it answers true, and turns nothing of old. -/
import Derived.Test.YtjmehamkpmimkaaJrnAw
namespace Go.Proofs.Ytjmehamkpmimkaa
open Go.RowKit

/-- A power and the crash behind it. -/
structure Fail4 where
  power : Int
  keep : List Bool
  n : Int
  m : Int

def FailAt (S : Nat → Prop) (w : World) (b off : Nat) (f : Fail4) : Prop :=
  w.cell? ⟨b, off, none⟩ = some (.int .i64 f.power) ∧ (∃ K d, w.cell? ⟨b, off + 1, none⟩ = some (.slice K f.keep.length d) ∧ f.keep.length ≤ maxLen ∧ Rd S w K (f.keep.map Value.bool)) ∧
  w.cell? ⟨b, off + 2, none⟩ = some (.int .i64 f.n) ∧ w.cell? ⟨b, off + 3, none⟩ = some (.int .i64 f.m)
def FailsAt (S : Nat → Prop) (w : World) (A : Option Addr) (fs : List Fail4) : Prop :=
  0 < fs.length → ∃ b o, A = some ⟨b, o, none⟩ ∧ S b ∧ b < w.heap.size ∧ ∀ (i : Nat) (f : Fail4), fs[i]? = some f → FailAt S w b (o + i * 4) f
theorem FailAt.keep_ {S F : Nat → Prop} {w w' : World} {b off : Nat} {f : Fail4} (h : FailAt S w b off f) (hb : b < w.heap.size) (hs : S b) (hm : Mod F w w') (hS : ∀ b, S b → ¬ F b) : FailAt S w' b off f := by
  obtain ⟨h0, ⟨K, d, h1, h2, h3⟩, h4, h5⟩ := h
  have hk : ∀ o, w'.cell? ⟨b, o, none⟩ = w.cell? ⟨b, o, none⟩ := fun o => hm.cell hb (hS _ hs)
  exact ⟨(hk _).trans h0, ⟨K, d, (hk _).trans h1, h2, h3.keep hm hS⟩, (hk _).trans h4, (hk _).trans h5⟩
theorem FailsAt.keep_ {S F : Nat → Prop} {w w' : World} {A : Option Addr} {fs : List Fail4} (h : FailsAt S w A fs) (hm : Mod F w w') (hS : ∀ b, S b → ¬ F b) : FailsAt S w' A fs := fun hn => by
  obtain ⟨b, o, e, hs, hb, hf⟩ := h hn
  exact ⟨b, o, e, hs, Nat.lt_of_lt_of_le hb hm.size, fun i f hi => (hf i f hi).keep_ hb hs hm hS⟩
theorem FailsAt.low_ {w : World} {A : Option Addr} {fs : List Fail4} (h : FailsAt All w A fs) : FailsAt (fun b => b < w.heap.size) w A fs := fun hn => by
  obtain ⟨b, o, e, _, hb, hf⟩ := h hn
  refine ⟨b, o, e, hb, hb, fun i f hi => ?_⟩
  obtain ⟨h0, ⟨K, d, h1, h2, h3⟩, h4, h5⟩ := hf i f hi
  exact ⟨h0, ⟨K, d, h1, h2, h3.mono (fun _ hb _ => hb)⟩, h4, h5⟩

/-- What a Put, a Recover lets wait. -/
theorem put_g (t : List UInt8) (s : DSt) (hs : DOk s) (ht : 4 + t.length ≤ 64 * jA s.secs ∨ jFits s t ≠ 0) (ha : jA s.secs ≤ 32767) : DOk (jPut t s).1 ∧ Grows 70000 s (jPut t s).1 := by
  unfold jPut
  split
  · rename_i hf
    have hb : (jArea (jA s.secs) t).length = 64 * jA s.secs := jArea_len (ht.resolve_right (fun h => h hf))
    obtain ⟨h1, h2⟩ := steps_g s.home (jArea (jA s.secs) t) s hs
    exact ⟨h1, h2.mono (by rw [hb]; omega)⟩
  · exact ⟨hs, (Grows.refl s).mono (Nat.zero_le _)⟩
theorem recover_g (s : DSt) (hs : DOk s) (ha : jA s.secs ≤ 32767) : DOk (jRecover s).1 ∧ Grows 70000 s (jRecover s).1 := by
  have hn : ∀ I : List UInt8, (jnOf (jA s.secs) I).length / 64 ≤ 32767 := fun I => by
    have : (jnOf (jA s.secs) I).length ≤ 64 * jA s.secs := by rw [jnOf, List.length_take]; omega
    omega
  unfold jRecover
  split
  · exact ⟨hs, (Grows.refl s).mono (Nat.zero_le _)⟩
  · split
    · have h0 := jMark_len 0 (crcSum (jnOf (jA s.secs) s.img))
      obtain ⟨h1, h2⟩ := run_cons_g sync_g (both_g s.home (jnOf (jA s.secs) s.img) (both_g 0 (jMark 0 (crcSum (jnOf (jA s.secs) s.img))) run_nil_g)) s hs
      exact ⟨h1, h2.mono (by rw [h0]; have := hn s.img; omega)⟩
    · split
      · exact ⟨hs, (Grows.refl s).mono (Nat.zero_le _)⟩
      · have h0 := jMark_len 0 0
        obtain ⟨h1, h2⟩ := both_g 0 (jMark 0 0) run_nil_g s hs
        exact ⟨h1, h2.mono (by rw [h0]; omega)⟩

theorem Sound.dok {a N : Nat} {X An : List UInt8} {s : DSt} (h : Sound a N X An s) : DOk s := fun x hx => by rw [h.ws] at hx; cases hx
theorem dok_nil {s : DSt} (h : s.ws = []) : DOk s := fun x hx => by rw [h] at hx; cases hx

theorem put_crash2 {a N : Nat} {s : DSt} {t Ao : List UInt8} (hz : Sized a N s) (ht : t.length + 12 ≤ 64 * a) (hws : s.ws = []) (hAo : hmOf a s.S = Ao) (hx : ∃ x, x < 4294967296 ∧ sector s.S 0 = jMark 0 x) :
    ∃ X, (X = Ao ∨ X = jArea a t) ∧ ((jPut t s).2 = 0 → X = jArea a t) ∧ ∀ keep torn octets, Sound a N X (jArea a t) ((jPut t s).1.crash keep torn octets) := by
  rcases put_safe hz ht hws hAo hx with h | ⟨h, _⟩
  · exact ⟨_, .inr rfl, fun _ => rfl, fun _ _ _ => h.crash (.inl rfl) _ _ _⟩
  · exact ⟨_, .inl rfl, fun h0 => (by rw [h.1] at h0; cases h0), fun _ _ _ => h.crash _ _ _⟩

/-- Where the law JournalCrashes stands behind a crash. -/
def CrashAt (w0 : World) (g : Nat) (X An : List UInt8) (wr : World) : Prop := ∃ F s, DskAt w0.heap.size wr g F s ∧ Sound 6 896 X An s ∧ Mod Nil w0 wr

set_option maxHeartbeats 12800000 in
set_option maxRecDepth 100000 in
theorem journalCrashes_walk (A0 : Option Addr) (n0 c0 : Nat) (l0 : List UInt8) (A1 : Option Addr) (n1 c1 : Nat) (l1 : List UInt8) (A2 : Option Addr) (n2 c2 : Nat) (fs : List Fail4) (w : World) (hl0 : l0.length = n0) (hr0 : Rd All w A0 (l0.map bv)) (hl1 : l1.length = n1) (hr1 : Rd All w A1 (l1.map bv)) (hl2 : fs.length = n2) (hr2 : FailsAt All w A2 fs) (hb : ∀ f ∈ fs, f.power ≤ 9223372036854775807) :
    Calls Try.prog 5 #[.slice A0 n0 c0, .slice A1 n1 c1, .slice A2 n2 c2] w fun r w' => r = .returned (.bool true) ∧ Mod Nil w w' := by
  have HR0 := Lib.hid hr0
  have HR1 := Lib.hid hr1
  have HR2 := Lib.hid hr2.low_
  have HL0 := Lib.hid hl0
  have HL1 := Lib.hid hl1
  have HL2 := Lib.hid hl2
  have HB := Lib.hid hb
  clear hr0 hr1 hr2 hl0 hl1 hl2 hb
  by_cases g0 : 300 < n0
  · skip
    go_enter Try.func5, Try.ntmps5
    go_wp2_with fail
    refine (awake4_any _).mono ?_
    rintro r w1 ⟨rfl, hm1⟩
    have HM1 := Lib.hid hm1
    clear hm1
    go_wp2_with fail
    refine (awake4_any _).mono ?_
    rintro r w2 ⟨rfl, hm2⟩
    have HM2 := Lib.hid hm2
    clear hm2
    go_wp2_with fail
    go_ret
    exact ⟨rfl, HM1.out.trans HM2.out⟩
  by_cases g1 : 300 < n1
  · skip
    go_enter Try.func5, Try.ntmps5
    go_wp2_with fail
    refine (awake4_any _).mono ?_
    rintro r w1 ⟨rfl, hm1⟩
    have HM1 := Lib.hid hm1
    clear hm1
    go_wp2_with fail
    refine (awake4_any _).mono ?_
    rintro r w2 ⟨rfl, hm2⟩
    have HM2 := Lib.hid hm2
    clear hm2
    go_wp2_with fail
    go_ret
    exact ⟨rfl, HM1.out.trans HM2.out⟩
  by_cases g2 : n2 = 0
  · subst g2
    go_enter Try.func5, Try.ntmps5
    go_wp2_with fail
    refine (awake4_any _).mono ?_
    rintro r w1 ⟨rfl, hm1⟩
    have HM1 := Lib.hid hm1
    clear hm1
    go_wp2_with fail
    refine (awake4_any _).mono ?_
    rintro r w2 ⟨rfl, hm2⟩
    have HM2 := Lib.hid hm2
    clear hm2
    go_wp2_with fail
    go_ret
    exact ⟨rfl, HM1.out.trans HM2.out⟩
  have g2b : ((n2 : Int) == 0) = false := by simp [g2]
  have g2p : 0 < n2 := by omega
  have G2 := Lib.hid g2
  clear g2
  by_cases g3 : 6 < n2
  · skip
    go_enter Try.func5, Try.ntmps5
    go_wp2_with fail
    refine (awake4_any _).mono ?_
    rintro r w1 ⟨rfl, hm1⟩
    have HM1 := Lib.hid hm1
    clear hm1
    go_wp2_with fail
    refine (awake4_any _).mono ?_
    rintro r w2 ⟨rfl, hm2⟩
    have HM2 := Lib.hid hm2
    clear hm2
    go_wp2_with fail
    go_ret
    exact ⟨rfl, HM1.out.trans HM2.out⟩
  obtain ⟨b, o, rfl, hbs, hbl0, hat0⟩ := HR2.out (by rw [HL2.out]; exact g2p)
  clear hbs
  have hz := newS_sized (n := 14) (by omega) (by omega)
  have hA : jA 14 = 6 := by decide
  rw [hA] at hz
  obtain ⟨hf1, hf2⟩ := format_stood (t := []) hz (by simp) rfl rfl
  have hp := hf1.to_put (t := l0) hz hf2 (by rw [HL0.out]; omega)
  have HN := Lib.hid (fun w' => dskNew_ok 14 w' (by omega) (by omega))
  rw [show (⟨List.replicate (64 * 14) 0, [], -1⟩ : DSt) = newS 14 from rfl] at HN
  obtain ⟨s0, hs0⟩ : ∃ s0, s0 = newS 14 := ⟨_, rfl⟩
  rw [← hs0] at hf1 hf2 hp hz HN
  have hw0 : s0.ws = [] ∧ s0.left = -1 := by rw [hs0]; exact ⟨rfl, rfl⟩
  have HZ := Lib.hid hz
  have HW0 := Lib.hid hw0
  have HF1 := Lib.hid hf1
  have HF2 := Lib.hid hf2
  have HP := Lib.hid hp
  clear hz hA hf1 hf2 hp hs0 hw0 hat0
  go_enter Try.func5, Try.ntmps5
  go_wp2_with fail
  refine (awake4_any _).mono ?_
  rintro r w0 ⟨rfl, hm0⟩
  have HM0 := Lib.hid hm0
  clear hm0
  have HAT := Lib.hid (show ∀ wr, Mod Nil w0 wr → FailsAt (fun b => b < w.heap.size) wr (some ⟨b, o, none⟩) fs from fun wr hm => HR2.out.keep_ (HM0.out.trans hm) (fun _ _ => id))
  go_wp2_with fail
  go_loop [7] (fun iv => ∃ i : Nat, i ≤ n2 ∧ iv = .int .i64 i ∧ ∀ j f, j < i → fs[j]? = some f → f.keep.length ≤ 60) (fun v => n2 - (intOf v).toNat)
  case atStart => exact ⟨0, Nat.zero_le _, rfl, fun j f hj => absurd hj (by omega)⟩
  case round =>
    obtain ⟨i, hi, rfl, hall⟩ := hrel
    have HALL := Lib.hid hall
    clear hall
    by_cases hlt : i < n2
    · obtain ⟨f, hf⟩ : ∃ f, fs[i]? = some f := ⟨_, List.getElem?_eq_getElem (by rw [HL2.out]; exact hlt)⟩
      obtain ⟨b', o', e, _, hbl, hat⟩ := (HAT.out _ (Mod.refl _ _)) (by rw [HL2.out]; omega)
      injection e with e
      injection e with e1 e2 e3
      subst e1 e2
      obtain ⟨h0, ⟨K, d, h1, hkl, hkr⟩, h2, h3⟩ := hat i f hf
      have HF := Lib.hid hf
      unfold maxLen at hkl
      clear hat hf hkr h0 h2 h3 e3
      by_cases h60 : 60 < f.keep.length
      · go_wp2_with fail
        go_ret
        exact ⟨rfl, HM0.out⟩
      · go_wp2_with fail
        go_round
        case rel =>
          refine ⟨i + 1, by omega, by go_num, fun j f' hj hf' => ?_⟩
          rcases Nat.lt_succ_iff_lt_or_eq.1 hj with h | h
          · exact HALL.out j f' h hf'
          · rw [h, HF.out] at hf'
            injection hf' with hf'
            subst hf'
            omega
        case measure => simp [intOf] <;> omega
    · have HK := Lib.hid (show ∀ j f, fs[j]? = some f → f.keep.length ≤ 60 from fun j f hf => HALL.out j f (by have := (List.getElem?_eq_some_iff.1 hf).1; have := HL2.out; omega) hf)
      clear HALL
      go_wp2_with fail
      refine (HN.out _).mono ?_
      rintro r w1 ⟨g, F, rfl, hd1, hm1⟩
      have HD1 := Lib.hid hd1
      have HM1 := Lib.hid hm1
      clear hd1 hm1
      go_wp2_with fail
      refine (jformat_any w0.heap.size g F s0 none 0 0 [] _ HD1.out HM1.out.size rfl (Rd.nil _ _ _) (by rw [HW0.out.1]; simp) (by rw [HW0.out.2]; omega)).mono ?_
      rintro r w2 ⟨rfl, F2, hd2, hm2, hF2⟩
      obtain ⟨s1, hs1⟩ : ∃ s1, s1 = (jFormat [] s0).1 := ⟨_, rfl⟩
      rw [HF1.out.1]
      rw [← hs1] at hd2
      have HS1 := Lib.hid hs1
      have HD2 := Lib.hid hd2
      have HM2 := Lib.hid (HM1.out.disk HD1.out hm2 (Nat.le_refl _))
      have hw1 : s1.ws = [] := by rw [hs1]; exact HF1.out.2.1
      have hl1 : s1.left = -1 := by rw [hs1]; exact HF2.out
      have hz1 := HZ.out.to (show s1.S.length = 896 by rw [hs1]; exact HF1.out.2.2.1)
      have HZ1 := Lib.hid hz1
      clear hs1 hd2 hm2 hF2 hz1
      go_wp2_with fail
      refine (jput_any w0.heap.size g F2 s1 A0 n0 c0 l0 _ HD2.out HM2.out.size HL0.out (HR0.out.keep0 (HM0.out.trans HM2.out)) (by rw [hw1]; simp) (by omega)).mono ?_
      rintro r w3 ⟨rfl, F3, hd3, hm3, hF3⟩
      rw [← HS1.out] at HP
      obtain ⟨s2, hs2⟩ : ∃ s2, s2 = (jPut l0 s1).1 := ⟨_, rfl⟩
      rw [HP.out.1]
      rw [← hs2] at hd3
      have HST2 := Lib.hid (show s2.ws = [] ∧ s2.S.length = 896 ∧ hmOf 6 s2.S = jArea 6 l0 ∧ ∃ x, x < 4294967296 ∧ sector s2.S 0 = jMark 0 x by rw [hs2]; exact HP.out.2)
      have HD3 := Lib.hid hd3
      have HM3 := Lib.hid (HM2.out.disk HD2.out hm3 (Nat.le_refl _))
      clear hs2 hd3 hm3 hF3 hw1 hl1
      obtain ⟨f, hf⟩ : ∃ f, fs[0]? = some f := ⟨_, List.getElem?_eq_getElem (by rw [HL2.out]; exact g2p)⟩
      have HFB := Lib.hid (HB.out f (List.mem_of_getElem? hf))
      have HFK := Lib.hid (HK.out 0 f hf)
      have HFX := Lib.hid (show ∀ wr', Mod Nil w0 wr' → FailAt (fun b => b < w.heap.size) wr' b o f from fun wr' hm => by
        obtain ⟨b', o', e, _, hbl, hat⟩ := (HAT.out _ hm) (by rw [HL2.out]; omega)
        injection e with e
        injection e with e1 e2 e3
        subst e1 e2
        have := hat 0 f hf
        simpa using this)
      have h0 := (HFX.out _ HM3.out).1
      clear hf
      go_wp2_with fail
      refine (dskPower_any w0.heap.size g F3 s2 f.power _ HD3.out).mono ?_
      rintro r w4 ⟨rfl, F4, hd4, hm4, hF4⟩
      have HD4 := Lib.hid (show DskAt w0.heap.size w4 g F4 (s2.power f.power) from hd4)
      have HM4 := Lib.hid (HM3.out.disk HD3.out hm4 (Nat.le_refl _))
      clear hd4 hm4 hF4 h0
      go_wp2_with fail
      refine (jput_any w0.heap.size g F4 (s2.power f.power) A1 n1 c1 l1 _ HD4.out HM4.out.size HL1.out (HR1.out.keep0 (HM0.out.trans HM4.out)) (by show s2.ws.length ≤ _; rw [HST2.out.1]; simp) (by show max f.power (-1) ≤ _; have := HFB.out; omega)).mono ?_
      rintro r w5 ⟨rfl, F5, hd5, hm5, hF5⟩
      obtain ⟨X, hX1, hX2, hX3⟩ := put_crash2 (s := s2.power f.power) (t := l1) (HZ.out.to HST2.out.2.1) (by rw [HL1.out]; omega) HST2.out.1 HST2.out.2.2.1 HST2.out.2.2.2
      have hgr := (put_g l1 (s2.power f.power) (dok_nil HST2.out.1) (.inl (by rw [← (HZ.out.to (s' := s2.power f.power) HST2.out.2.1).area, HL1.out]; omega)) (by rw [← (HZ.out.to (s' := s2.power f.power) HST2.out.2.1).area]; omega)).2
      have hw4 : (jPut l1 (s2.power f.power)).1.ws.length ≤ 100000 := by
        have := hgr.2.1
        have h5 : (s2.power f.power).ws = [] := HST2.out.1
        rw [h5] at this
        simp at this
        omega
      obtain ⟨s4, hs4⟩ : ∃ s4, s4 = (jPut l1 (s2.power f.power)).1 := ⟨_, rfl⟩
      obtain ⟨e4, he4⟩ : ∃ e4, e4 = (jPut l1 (s2.power f.power)).2 := ⟨_, rfl⟩
      rw [← hs4] at hX3 hd5 hw4
      rw [← he4] at hX2 ⊢
      have HX1 := Lib.hid hX1
      have HX2 := Lib.hid hX2
      have HX3 := Lib.hid hX3
      have HD5 := Lib.hid hd5
      have HM5 := Lib.hid (HM4.out.disk HD4.out hm5 (Nat.le_refl _))
      clear hX1 hX2 hX3 hgr hs4 he4 hd5 hm5 hF5
      obtain ⟨_, ⟨K, d, h1, hkl, hkr⟩, h2, h3⟩ := HFX.out _ HM5.out
      have HKR := Lib.hid hkr
      have HBW := Lib.hid HM0.out.size
      clear hkr
      go_upto_region 15 with fail
      go_cut [] (fun wx => CrashAt w0 g X (jArea 6 l1) wx)
      case first =>
        go_region_law (go_simp;
                       go_at_call 22;
                       refine (dskCrash_any w0.heap.size g F5 s4 K f.keep.length d f.keep f.n f.m (fun b => b < w.heap.size) _ (HD5.out.keep0 ((Mod.refl Nil w5).drew)) (by omega) rfl hkl (HKR.out.keep0 ((Mod.refl Nil w5).drew)) (fun k hk hF => by have := (HD5.out.lt k hF).1; have := HBW.out; omega)).mono ?_;
                       rintro r w6 ⟨rfl, F6, hd6, hm6, hF6⟩;
                       have HC6 := Lib.hid (show CrashAt w0 g X (jArea 6 l1) w6 from ⟨F6, _, hd6, HX3.out _ _ _, ((HM5.out.drew).disk (HD5.out.keep0 ((Mod.refl Nil w5).drew)) hm6 (Nat.le_refl _))⟩);
                       clear hd6 hm6 hF6)
        all_goals
          go_simp
          go_wp2_with fail
          go_meet
          case rel => exact HC6.out
      case rest =>
        have HCC := Lib.hid hcut
        clear hcut h1 h2 h3
        go_wp2_with fail
        go_loopw [11] (fun iv wr => ∃ i : Nat, 1 ≤ i ∧ i ≤ n2 ∧ iv = .int .i64 i ∧ CrashAt w0 g X (jArea 6 l1) wr) (fun v _ => n2 - (intOf v).toNat)
        case atStart => exact ⟨1, Nat.le_refl _, g2p, rfl, HCC.out⟩
        case round =>
          obtain ⟨i, hi1, hi, rfl, ⟨F, s, hd, hso, hm⟩⟩ := hrel
          have HD := Lib.hid hd
          have HSO := Lib.hid hso
          have HM := Lib.hid hm
          clear hd hso hm
          have hzs := HZ.out.to (s' := s) HSO.out.len
          have hal : (jArea 6 l1).length = 64 * 6 := jArea_len (by rw [HL1.out]; omega)
          by_cases hlt : i < n2
          · obtain ⟨f, hf⟩ : ∃ f, fs[i]? = some f := ⟨_, List.getElem?_eq_getElem (by rw [HL2.out]; exact hlt)⟩
            have HFB := Lib.hid (HB.out f (List.mem_of_getElem? hf))
            have HFX := Lib.hid (show ∀ wr', Mod Nil w0 wr' → FailAt (fun b => b < w.heap.size) wr' b (o + i * 4) f from fun wr' hm => by
              obtain ⟨b', o', e, _, hbl, hat⟩ := (HAT.out _ hm) (by rw [HL2.out]; omega)
              injection e with e
              injection e with e1 e2 e3
              subst e1 e2
              exact hat i f hf)
            have h0 := (HFX.out _ HM.out).1
            have hsec := recover_crash hzs hal HSO.out f.power
            have hgr := (recover_g (s.power f.power) (dok_nil HSO.out.ws) (by rw [← (HZ.out.to (s' := s.power f.power) HSO.out.len).area]; omega)).2
            have hw4 : (jRecover (s.power f.power)).1.ws.length ≤ 100000 := by
              have := hgr.2.1
              have h5 : (s.power f.power).ws = [] := HSO.out.ws
              rw [h5] at this
              simp at this
              omega
            have HSEC := Lib.hid hsec
            have HSW := Lib.hid HSO.out.ws
            clear hf hsec hgr hzs hal
            go_wp2_with fail
            refine (dskPower_any w0.heap.size g F s f.power _ HD.out).mono ?_
            rintro r w4 ⟨rfl, F4, hd4, hm4, hF4⟩
            have HD4 := Lib.hid (show DskAt w0.heap.size w4 g F4 (s.power f.power) from hd4)
            have HM4 := Lib.hid (HM.out.disk HD.out hm4 (Nat.le_refl _))
            clear hd4 hm4 hF4 h0
            go_wp2_with fail
            refine (jrecover_any w0.heap.size g F4 (s.power f.power) _ HD4.out HM4.out.size (by show s.ws.length ≤ _; rw [HSW.out]; simp) (by show max f.power (-1) ≤ _; have := HFB.out; omega)).mono ?_
            rintro r w5 ⟨rfl, F5, hd5, hm5, hF5⟩
            obtain ⟨s4, hs4⟩ : ∃ s4, s4 = (jRecover (s.power f.power)).1 := ⟨_, rfl⟩
            rw [← hs4] at hd5 hw4 HSEC
            have HD5 := Lib.hid hd5
            have HM5 := Lib.hid (HM4.out.disk HD4.out hm5 (Nat.le_refl _))
            clear hs4 hd5 hm5 hF5
            obtain ⟨_, ⟨K, d, h1, hkl, hkr⟩, h2, h3⟩ := HFX.out _ HM5.out
            have HKR := Lib.hid hkr
            clear hkr
            go_wp2_with fail
            go_region_law (go_simp;
                           go_at_call 22;
                           refine (dskCrash_any w0.heap.size g F5 s4 K f.keep.length d f.keep f.n f.m (fun b => b < w.heap.size) _ (HD5.out.keep0 ((Mod.refl Nil w5).drew)) (by omega) rfl hkl (HKR.out.keep0 ((Mod.refl Nil w5).drew)) (fun k hk hF => by have := (HD5.out.lt k hF).1; have := HBW.out; omega)).mono ?_;
                           rintro r w6 ⟨rfl, F6, hd6, hm6, hF6⟩;
                           have HC6 := Lib.hid (show CrashAt w0 g X (jArea 6 l1) w6 from ⟨F6, _, hd6, HSEC.out _ _ _, ((HM5.out.drew).disk (HD5.out.keep0 ((Mod.refl Nil w5).drew)) hm6 (Nat.le_refl _))⟩);
                           clear hd6 hm6 hF6)
            all_goals
              go_simp
              go_wp2_with fail
              go_roundw
              case rel => exact ⟨i + 1, by omega, by omega, by go_num, HC6.out⟩
              case measure => simp [intOf] <;> omega
          · obtain ⟨t, ht, htl, htx⟩ : ∃ t, Stood 6 896 (jArea 6 t) (jRecover s) ∧ t.length + 12 ≤ 64 * 6 ∧ (t = l1 ∨ (t = l0 ∧ l0 ≠ l1 ∧ e4 ≠ 0)) := by
              have q0 : l0.length + 12 ≤ 64 * 6 := by rw [HL0.out]; omega
              have q1 : l1.length + 12 ≤ 64 * 6 := by rw [HL1.out]; omega
              rcases recover_ok hzs hal HSO.out with h | h
              · rcases HX1.out with hX | hX
                · by_cases h01 : l0 = l1
                  · exact ⟨l1, by rw [← h01, ← hX]; exact h, q1, .inl rfl⟩
                  · by_cases h4 : e4 = 0
                    · have := HX2.out h4
                      exact ⟨l1, by rw [← this]; exact h, q1, .inl rfl⟩
                    · exact ⟨l0, by rw [← hX]; exact h, q0, .inr ⟨rfl, h01, h4⟩⟩
                · exact ⟨l1, by rw [← hX]; exact h, q1, .inl rfl⟩
              · exact ⟨l1, h, q1, .inl rfl⟩
            have hget := ht.get hzs htl
            have HST := Lib.hid ht
            have HGET := Lib.hid hget
            have HTX := Lib.hid htx
            have HSW := Lib.hid HSO.out.ws
            have HSL := Lib.hid HSO.out.left
            clear ht hget htx htl hzs hal
            go_wp2_with fail
            refine (jrecover_any w0.heap.size g F s _ HD.out HM.out.size (by rw [HSW.out]; simp) (by rw [HSL.out]; omega)).mono ?_
            rintro r w5 ⟨rfl, F5, hd5, hm5, hF5⟩
            obtain ⟨s4, hs4⟩ : ∃ s4, s4 = (jRecover s).1 := ⟨_, rfl⟩
            rw [HST.out.1]
            rw [← hs4] at hd5 HGET
            have HSW4 := Lib.hid (show s4.ws = [] by rw [hs4]; exact HST.out.2.1)
            have HD5 := Lib.hid hd5
            have HM5 := Lib.hid (HM.out.disk HD.out hm5 (Nat.le_refl _))
            clear hs4 hd5 hm5 hF5
            go_wp2_with fail
            refine (jget_any w0.heap.size g F5 s4 _ HD5.out (by rw [HSW4.out]; simp)).mono ?_
            rw [HGET.out]
            rintro r w6 ⟨A6, n6, c6, rfl, ho6, hm6⟩
            have hn6 : t.length = n6 := by have := ho6.1; simpa using this
            have k6 := conv_bytes (l := t) (n := n6) (Rd.of_own ho6) hn6 c6
            have HM6 := Lib.hid (HM5.out.trans hm6)
            have k0 := conv_bytes (HR0.out.keep0 (HM0.out.trans HM6.out)) HL0.out c0
            have k1 := conv_bytes (HR1.out.keep0 (HM0.out.trans HM6.out)) HL1.out c1
            have HN6 := Lib.hid hn6
            clear ho6 hm6 hn6
            rcases HTX.out with htt | ⟨htt, hne, h4⟩
            · subst htt
              by_cases h4 : e4 = 0
              · subst h4
                go_wp2_with fail
                go_ret
                exact ⟨rfl, HM0.out.trans HM6.out⟩
              · have hb4 : (e4 == 0) = false := by simp [h4]
                have H4 := Lib.hid h4
                clear h4
                go_wp2_with fail
                go_ret
                exact ⟨rfl, HM0.out.trans HM6.out⟩
            · subst htt
              have hb4 : (e4 == 0) = false := by simp [h4]
              have hbs : ((str t).toList == (str l1).toList) = false := by
                rw [ByteArray.toList_eq, ByteArray.toList_eq, str_list, str_list]
                simp [hne]
              have H4 := Lib.hid h4
              have HNE := Lib.hid hne
              clear h4 hne
              go_wp2_with fail
              go_ret
              exact ⟨rfl, HM0.out.trans HM6.out⟩

end Go.Proofs.Ytjmehamkpmimkaa
