/- Parts of the proof of StoreActs, joined: JrnCrW CrcO CrcOpensW StoW StoX StoP. -/
import Derived.Test.YtjmehamkpmimkaaStoreActsj5
import Derived.Laws.LoneSync
import Derived.IntWalk
namespace Go.Proofs.Ytjmehamkpmimkaa
open Go.RowKit

/-- A power and the crash behind it. -/
structure Fail4 where
  power : Int
  keep : List Bool
  n : Int
  m : Int

def FailAt (S : Nat → Prop) (w : World) (b off : Nat) (f : Fail4) : Prop :=
  w.cell? ⟨b, off, none⟩ = some (.int .i64 f.power) ∧ (∃ K d, w.cell? ⟨b, off + 1, none⟩ = some (.slice K f.keep.length d) ∧ f.keep.length ≤ maxLen ∧ Rd S w K (f.keep.map Value.bool)) ∧
  w.cell? ⟨b, off + 2, none⟩ = some (.int .i64 f.n) ∧ w.cell? ⟨b, off + 3, none⟩ = some (.int .i64 f.m)
def FailsAt (S : Nat → Prop) (w : World) (A : Option Addr) (fs : List Fail4) : Prop :=
  0 < fs.length → ∃ b o, A = some ⟨b, o, none⟩ ∧ S b ∧ b < w.heap.size ∧ ∀ (i : Nat) (f : Fail4), fs[i]? = some f → FailAt S w b (o + i * 4) f
theorem FailAt.keep_ {S F : Nat → Prop} {w w' : World} {b off : Nat} {f : Fail4} (h : FailAt S w b off f) (hb : b < w.heap.size) (hs : S b) (hm : Mod F w w') (hS : ∀ b, S b → ¬ F b) : FailAt S w' b off f := by
  obtain ⟨h0, ⟨K, d, h1, h2, h3⟩, h4, h5⟩ := h
  have hk : ∀ o, w'.cell? ⟨b, o, none⟩ = w.cell? ⟨b, o, none⟩ := fun o => hm.cell hb (hS _ hs)
  exact ⟨(hk _).trans h0, ⟨K, d, (hk _).trans h1, h2, h3.keep hm hS⟩, (hk _).trans h4, (hk _).trans h5⟩
theorem FailsAt.keep_ {S F : Nat → Prop} {w w' : World} {A : Option Addr} {fs : List Fail4} (h : FailsAt S w A fs) (hm : Mod F w w') (hS : ∀ b, S b → ¬ F b) : FailsAt S w' A fs := fun hn => by
  obtain ⟨b, o, e, hs, hb, hf⟩ := h hn
  exact ⟨b, o, e, hs, Nat.lt_of_lt_of_le hb hm.size, fun i f hi => (hf i f hi).keep_ hb hs hm hS⟩
theorem FailsAt.low_ {w : World} {A : Option Addr} {fs : List Fail4} (h : FailsAt All w A fs) : FailsAt (fun b => b < w.heap.size) w A fs := fun hn => by
  obtain ⟨b, o, e, _, hb, hf⟩ := h hn
  refine ⟨b, o, e, hb, hb, fun i f hi => ?_⟩
  obtain ⟨h0, ⟨K, d, h1, h2, h3⟩, h4, h5⟩ := hf i f hi
  exact ⟨h0, ⟨K, d, h1, h2, h3.mono (fun _ hb _ => hb)⟩, h4, h5⟩

/-- What a Put, a Recover lets wait. -/
theorem put_g (t : List UInt8) (s : DSt) (hs : DOk s) (ht : 4 + t.length ≤ 64 * jA s.secs ∨ jFits s t ≠ 0) (ha : jA s.secs ≤ 32767) : DOk (jPut t s).1 ∧ Grows 70000 s (jPut t s).1 := by
  unfold jPut
  split
  · rename_i hf
    have hb : (jArea (jA s.secs) t).length = 64 * jA s.secs := jArea_len (ht.resolve_right (fun h => h hf))
    obtain ⟨h1, h2⟩ := steps_g s.home (jArea (jA s.secs) t) s hs
    exact ⟨h1, h2.mono (by rw [hb]; omega)⟩
  · exact ⟨hs, (Grows.refl s).mono (Nat.zero_le _)⟩
theorem recover_g (s : DSt) (hs : DOk s) (ha : jA s.secs ≤ 32767) : DOk (jRecover s).1 ∧ Grows 70000 s (jRecover s).1 := by
  have hn : ∀ I : List UInt8, (jnOf (jA s.secs) I).length / 64 ≤ 32767 := fun I => by
    have : (jnOf (jA s.secs) I).length ≤ 64 * jA s.secs := by rw [jnOf, List.length_take]; omega
    omega
  unfold jRecover
  split
  · exact ⟨hs, (Grows.refl s).mono (Nat.zero_le _)⟩
  · split
    · have h0 := jMark_len 0 (crcSum (jnOf (jA s.secs) s.img))
      obtain ⟨h1, h2⟩ := run_cons_g sync_g (both_g s.home (jnOf (jA s.secs) s.img) (both_g 0 (jMark 0 (crcSum (jnOf (jA s.secs) s.img))) run_nil_g)) s hs
      exact ⟨h1, h2.mono (by rw [h0]; have := hn s.img; omega)⟩
    · split
      · exact ⟨hs, (Grows.refl s).mono (Nat.zero_le _)⟩
      · have h0 := jMark_len 0 0
        obtain ⟨h1, h2⟩ := both_g 0 (jMark 0 0) run_nil_g s hs
        exact ⟨h1, h2.mono (by rw [h0]; omega)⟩

theorem Sound.dok {a N : Nat} {X An : List UInt8} {s : DSt} (h : Sound a N X An s) : DOk s := fun x hx => by rw [h.ws] at hx; cases hx
theorem dok_nil {s : DSt} (h : s.ws = []) : DOk s := fun x hx => by rw [h] at hx; cases hx

theorem put_crash2 {a N : Nat} {s : DSt} {t Ao : List UInt8} (hz : Sized a N s) (ht : t.length + 12 ≤ 64 * a) (hws : s.ws = []) (hAo : hmOf a s.S = Ao) (hx : ∃ x, x < 4294967296 ∧ sector s.S 0 = jMark 0 x) :
    ∃ X, (X = Ao ∨ X = jArea a t) ∧ ((jPut t s).2 = 0 → X = jArea a t) ∧ ∀ keep torn octets, Sound a N X (jArea a t) ((jPut t s).1.crash keep torn octets) := by
  rcases put_safe hz ht hws hAo hx with h | ⟨h, _⟩
  · exact ⟨_, .inr rfl, fun _ => rfl, fun _ _ _ => h.crash (.inl rfl) _ _ _⟩
  · exact ⟨_, .inl rfl, fun h0 => (by rw [h.1] at h0; cases h0), fun _ _ _ => h.crash _ _ _⟩

/-- Where the law JournalCrashes stands behind a crash. -/
def CrashAt (w0 : World) (g : Nat) (X An : List UInt8) (wr : World) : Prop := ∃ F s, DskAt w0.heap.size wr g F s ∧ Sound 6 896 X An s ∧ Mod Nil w0 wr

set_option maxHeartbeats 12800000 in
set_option maxRecDepth 100000 in
theorem journalCrashes_walk (A0 : Option Addr) (n0 c0 : Nat) (l0 : List UInt8) (A1 : Option Addr) (n1 c1 : Nat) (l1 : List UInt8) (A2 : Option Addr) (n2 c2 : Nat) (fs : List Fail4) (w : World) (hl0 : l0.length = n0) (hr0 : Rd All w A0 (l0.map bv)) (hl1 : l1.length = n1) (hr1 : Rd All w A1 (l1.map bv)) (hl2 : fs.length = n2) (hr2 : FailsAt All w A2 fs) (hb : ∀ f ∈ fs, f.power ≤ 9223372036854775807) :
    Calls Try.prog 5 #[.slice A0 n0 c0, .slice A1 n1 c1, .slice A2 n2 c2] w fun r w' => r = .returned (.bool true) ∧ Mod Nil w w' := by
  have HR0 := Lib.hid hr0
  have HR1 := Lib.hid hr1
  have HR2 := Lib.hid hr2.low_
  have HL0 := Lib.hid hl0
  have HL1 := Lib.hid hl1
  have HL2 := Lib.hid hl2
  have HB := Lib.hid hb
  clear hr0 hr1 hr2 hl0 hl1 hl2 hb
  by_cases g0 : 300 < n0
  · skip
    go_enter Try.func5, Try.ntmps5
    go_wp2_with fail
    refine (awake4_any _).mono ?_
    rintro r w1 ⟨rfl, hm1⟩
    have HM1 := Lib.hid hm1
    clear hm1
    go_wp2_with fail
    refine (awake4_any _).mono ?_
    rintro r w2 ⟨rfl, hm2⟩
    have HM2 := Lib.hid hm2
    clear hm2
    go_wp2_with fail
    go_ret
    exact ⟨rfl, HM1.out.trans HM2.out⟩
  by_cases g1 : 300 < n1
  · skip
    go_enter Try.func5, Try.ntmps5
    go_wp2_with fail
    refine (awake4_any _).mono ?_
    rintro r w1 ⟨rfl, hm1⟩
    have HM1 := Lib.hid hm1
    clear hm1
    go_wp2_with fail
    refine (awake4_any _).mono ?_
    rintro r w2 ⟨rfl, hm2⟩
    have HM2 := Lib.hid hm2
    clear hm2
    go_wp2_with fail
    go_ret
    exact ⟨rfl, HM1.out.trans HM2.out⟩
  by_cases g2 : n2 = 0
  · subst g2
    go_enter Try.func5, Try.ntmps5
    go_wp2_with fail
    refine (awake4_any _).mono ?_
    rintro r w1 ⟨rfl, hm1⟩
    have HM1 := Lib.hid hm1
    clear hm1
    go_wp2_with fail
    refine (awake4_any _).mono ?_
    rintro r w2 ⟨rfl, hm2⟩
    have HM2 := Lib.hid hm2
    clear hm2
    go_wp2_with fail
    go_ret
    exact ⟨rfl, HM1.out.trans HM2.out⟩
  have g2b : ((n2 : Int) == 0) = false := by simp [g2]
  have g2p : 0 < n2 := by omega
  have G2 := Lib.hid g2
  clear g2
  by_cases g3 : 6 < n2
  · skip
    go_enter Try.func5, Try.ntmps5
    go_wp2_with fail
    refine (awake4_any _).mono ?_
    rintro r w1 ⟨rfl, hm1⟩
    have HM1 := Lib.hid hm1
    clear hm1
    go_wp2_with fail
    refine (awake4_any _).mono ?_
    rintro r w2 ⟨rfl, hm2⟩
    have HM2 := Lib.hid hm2
    clear hm2
    go_wp2_with fail
    go_ret
    exact ⟨rfl, HM1.out.trans HM2.out⟩
  obtain ⟨b, o, rfl, hbs, hbl0, hat0⟩ := HR2.out (by rw [HL2.out]; exact g2p)
  clear hbs
  have hz := newS_sized (n := 14) (by omega) (by omega)
  have hA : jA 14 = 6 := by decide
  rw [hA] at hz
  obtain ⟨hf1, hf2⟩ := format_stood (t := []) hz (by simp) rfl rfl
  have hp := hf1.to_put (t := l0) hz hf2 (by rw [HL0.out]; omega)
  have HN := Lib.hid (fun w' => dskNew_ok 14 w' (by omega) (by omega))
  rw [show (⟨List.replicate (64 * 14) 0, [], -1⟩ : DSt) = newS 14 from rfl] at HN
  obtain ⟨s0, hs0⟩ : ∃ s0, s0 = newS 14 := ⟨_, rfl⟩
  rw [← hs0] at hf1 hf2 hp hz HN
  have hw0 : s0.ws = [] ∧ s0.left = -1 := by rw [hs0]; exact ⟨rfl, rfl⟩
  have HZ := Lib.hid hz
  have HW0 := Lib.hid hw0
  have HF1 := Lib.hid hf1
  have HF2 := Lib.hid hf2
  have HP := Lib.hid hp
  clear hz hA hf1 hf2 hp hs0 hw0 hat0
  go_enter Try.func5, Try.ntmps5
  go_wp2_with fail
  refine (awake4_any _).mono ?_
  rintro r w0 ⟨rfl, hm0⟩
  have HM0 := Lib.hid hm0
  clear hm0
  have HAT := Lib.hid (show ∀ wr, Mod Nil w0 wr → FailsAt (fun b => b < w.heap.size) wr (some ⟨b, o, none⟩) fs from fun wr hm => HR2.out.keep_ (HM0.out.trans hm) (fun _ _ => id))
  go_wp2_with fail
  go_loop [7] (fun iv => ∃ i : Nat, i ≤ n2 ∧ iv = .int .i64 i ∧ ∀ j f, j < i → fs[j]? = some f → f.keep.length ≤ 60) (fun v => n2 - (intOf v).toNat)
  case atStart => exact ⟨0, Nat.zero_le _, rfl, fun j f hj => absurd hj (by omega)⟩
  case round =>
    obtain ⟨i, hi, rfl, hall⟩ := hrel
    have HALL := Lib.hid hall
    clear hall
    by_cases hlt : i < n2
    · obtain ⟨f, hf⟩ : ∃ f, fs[i]? = some f := ⟨_, List.getElem?_eq_getElem (by rw [HL2.out]; exact hlt)⟩
      obtain ⟨b', o', e, _, hbl, hat⟩ := (HAT.out _ (Mod.refl _ _)) (by rw [HL2.out]; omega)
      injection e with e
      injection e with e1 e2 e3
      subst e1 e2
      obtain ⟨h0, ⟨K, d, h1, hkl, hkr⟩, h2, h3⟩ := hat i f hf
      have HF := Lib.hid hf
      unfold maxLen at hkl
      clear hat hf hkr h0 h2 h3 e3
      by_cases h60 : 60 < f.keep.length
      · go_wp2_with fail
        go_ret
        exact ⟨rfl, HM0.out⟩
      · go_wp2_with fail
        go_round
        case rel =>
          refine ⟨i + 1, by omega, by go_num, fun j f' hj hf' => ?_⟩
          rcases Nat.lt_succ_iff_lt_or_eq.1 hj with h | h
          · exact HALL.out j f' h hf'
          · rw [h, HF.out] at hf'
            injection hf' with hf'
            subst hf'
            omega
        case measure => simp [intOf] <;> omega
    · have HK := Lib.hid (show ∀ j f, fs[j]? = some f → f.keep.length ≤ 60 from fun j f hf => HALL.out j f (by have := (List.getElem?_eq_some_iff.1 hf).1; have := HL2.out; omega) hf)
      clear HALL
      go_wp2_with fail
      refine (HN.out _).mono ?_
      rintro r w1 ⟨g, F, rfl, hd1, hm1⟩
      have HD1 := Lib.hid hd1
      have HM1 := Lib.hid hm1
      clear hd1 hm1
      go_wp2_with fail
      refine (jformat_any w0.heap.size g F s0 none 0 0 [] _ HD1.out HM1.out.size rfl (Rd.nil _ _ _) (by rw [HW0.out.1]; simp) (by rw [HW0.out.2]; omega)).mono ?_
      rintro r w2 ⟨rfl, F2, hd2, hm2, hF2⟩
      obtain ⟨s1, hs1⟩ : ∃ s1, s1 = (jFormat [] s0).1 := ⟨_, rfl⟩
      rw [HF1.out.1]
      rw [← hs1] at hd2
      have HS1 := Lib.hid hs1
      have HD2 := Lib.hid hd2
      have HM2 := Lib.hid (HM1.out.disk HD1.out hm2 (Nat.le_refl _))
      have hw1 : s1.ws = [] := by rw [hs1]; exact HF1.out.2.1
      have hl1 : s1.left = -1 := by rw [hs1]; exact HF2.out
      have hz1 := HZ.out.to (show s1.S.length = 896 by rw [hs1]; exact HF1.out.2.2.1)
      have HZ1 := Lib.hid hz1
      clear hs1 hd2 hm2 hF2 hz1
      go_wp2_with fail
      refine (jput_any w0.heap.size g F2 s1 A0 n0 c0 l0 _ HD2.out HM2.out.size HL0.out (HR0.out.keep0 (HM0.out.trans HM2.out)) (by rw [hw1]; simp) (by omega)).mono ?_
      rintro r w3 ⟨rfl, F3, hd3, hm3, hF3⟩
      rw [← HS1.out] at HP
      obtain ⟨s2, hs2⟩ : ∃ s2, s2 = (jPut l0 s1).1 := ⟨_, rfl⟩
      rw [HP.out.1]
      rw [← hs2] at hd3
      have HST2 := Lib.hid (show s2.ws = [] ∧ s2.S.length = 896 ∧ hmOf 6 s2.S = jArea 6 l0 ∧ ∃ x, x < 4294967296 ∧ sector s2.S 0 = jMark 0 x by rw [hs2]; exact HP.out.2)
      have HD3 := Lib.hid hd3
      have HM3 := Lib.hid (HM2.out.disk HD2.out hm3 (Nat.le_refl _))
      clear hs2 hd3 hm3 hF3 hw1 hl1
      obtain ⟨f, hf⟩ : ∃ f, fs[0]? = some f := ⟨_, List.getElem?_eq_getElem (by rw [HL2.out]; exact g2p)⟩
      have HFB := Lib.hid (HB.out f (List.mem_of_getElem? hf))
      have HFK := Lib.hid (HK.out 0 f hf)
      have HFX := Lib.hid (show ∀ wr', Mod Nil w0 wr' → FailAt (fun b => b < w.heap.size) wr' b o f from fun wr' hm => by
        obtain ⟨b', o', e, _, hbl, hat⟩ := (HAT.out _ hm) (by rw [HL2.out]; omega)
        injection e with e
        injection e with e1 e2 e3
        subst e1 e2
        have := hat 0 f hf
        simpa using this)
      have h0 := (HFX.out _ HM3.out).1
      clear hf
      go_wp2_with fail
      refine (dskPower_any w0.heap.size g F3 s2 f.power _ HD3.out).mono ?_
      rintro r w4 ⟨rfl, F4, hd4, hm4, hF4⟩
      have HD4 := Lib.hid (show DskAt w0.heap.size w4 g F4 (s2.power f.power) from hd4)
      have HM4 := Lib.hid (HM3.out.disk HD3.out hm4 (Nat.le_refl _))
      clear hd4 hm4 hF4 h0
      go_wp2_with fail
      refine (jput_any w0.heap.size g F4 (s2.power f.power) A1 n1 c1 l1 _ HD4.out HM4.out.size HL1.out (HR1.out.keep0 (HM0.out.trans HM4.out)) (by show s2.ws.length ≤ _; rw [HST2.out.1]; simp) (by show max f.power (-1) ≤ _; have := HFB.out; omega)).mono ?_
      rintro r w5 ⟨rfl, F5, hd5, hm5, hF5⟩
      obtain ⟨X, hX1, hX2, hX3⟩ := put_crash2 (s := s2.power f.power) (t := l1) (HZ.out.to HST2.out.2.1) (by rw [HL1.out]; omega) HST2.out.1 HST2.out.2.2.1 HST2.out.2.2.2
      have hgr := (put_g l1 (s2.power f.power) (dok_nil HST2.out.1) (.inl (by rw [← (HZ.out.to (s' := s2.power f.power) HST2.out.2.1).area, HL1.out]; omega)) (by rw [← (HZ.out.to (s' := s2.power f.power) HST2.out.2.1).area]; omega)).2
      have hw4 : (jPut l1 (s2.power f.power)).1.ws.length ≤ 100000 := by
        have := hgr.2.1
        have h5 : (s2.power f.power).ws = [] := HST2.out.1
        rw [h5] at this
        simp at this
        omega
      obtain ⟨s4, hs4⟩ : ∃ s4, s4 = (jPut l1 (s2.power f.power)).1 := ⟨_, rfl⟩
      obtain ⟨e4, he4⟩ : ∃ e4, e4 = (jPut l1 (s2.power f.power)).2 := ⟨_, rfl⟩
      rw [← hs4] at hX3 hd5 hw4
      rw [← he4] at hX2 ⊢
      have HX1 := Lib.hid hX1
      have HX2 := Lib.hid hX2
      have HX3 := Lib.hid hX3
      have HD5 := Lib.hid hd5
      have HM5 := Lib.hid (HM4.out.disk HD4.out hm5 (Nat.le_refl _))
      clear hX1 hX2 hX3 hgr hs4 he4 hd5 hm5 hF5
      obtain ⟨_, ⟨K, d, h1, hkl, hkr⟩, h2, h3⟩ := HFX.out _ HM5.out
      have HKR := Lib.hid hkr
      have HBW := Lib.hid HM0.out.size
      clear hkr
      go_upto_region 15 with fail
      go_cut [] (fun wx => CrashAt w0 g X (jArea 6 l1) wx)
      case first =>
        go_region_law (go_simp;
                       go_at_call 22;
                       refine (dskCrash_any w0.heap.size g F5 s4 K f.keep.length d f.keep f.n f.m (fun b => b < w.heap.size) _ (HD5.out.keep0 ((Mod.refl Nil w5).drew)) (by omega) rfl hkl (HKR.out.keep0 ((Mod.refl Nil w5).drew)) (fun k hk hF => by have := (HD5.out.lt k hF).1; have := HBW.out; omega)).mono ?_;
                       rintro r w6 ⟨rfl, F6, hd6, hm6, hF6⟩;
                       have HC6 := Lib.hid (show CrashAt w0 g X (jArea 6 l1) w6 from ⟨F6, _, hd6, HX3.out _ _ _, ((HM5.out.drew).disk (HD5.out.keep0 ((Mod.refl Nil w5).drew)) hm6 (Nat.le_refl _))⟩);
                       clear hd6 hm6 hF6)
        all_goals
          go_simp
          go_wp2_with fail
          go_meet
          case rel => exact HC6.out
      case rest =>
        have HCC := Lib.hid hcut
        clear hcut h1 h2 h3
        go_wp2_with fail
        go_loopw [11] (fun iv wr => ∃ i : Nat, 1 ≤ i ∧ i ≤ n2 ∧ iv = .int .i64 i ∧ CrashAt w0 g X (jArea 6 l1) wr) (fun v _ => n2 - (intOf v).toNat)
        case atStart => exact ⟨1, Nat.le_refl _, g2p, rfl, HCC.out⟩
        case round =>
          obtain ⟨i, hi1, hi, rfl, ⟨F, s, hd, hso, hm⟩⟩ := hrel
          have HD := Lib.hid hd
          have HSO := Lib.hid hso
          have HM := Lib.hid hm
          clear hd hso hm
          have hzs := HZ.out.to (s' := s) HSO.out.len
          have hal : (jArea 6 l1).length = 64 * 6 := jArea_len (by rw [HL1.out]; omega)
          by_cases hlt : i < n2
          · obtain ⟨f, hf⟩ : ∃ f, fs[i]? = some f := ⟨_, List.getElem?_eq_getElem (by rw [HL2.out]; exact hlt)⟩
            have HFB := Lib.hid (HB.out f (List.mem_of_getElem? hf))
            have HFX := Lib.hid (show ∀ wr', Mod Nil w0 wr' → FailAt (fun b => b < w.heap.size) wr' b (o + i * 4) f from fun wr' hm => by
              obtain ⟨b', o', e, _, hbl, hat⟩ := (HAT.out _ hm) (by rw [HL2.out]; omega)
              injection e with e
              injection e with e1 e2 e3
              subst e1 e2
              exact hat i f hf)
            have h0 := (HFX.out _ HM.out).1
            have hsec := recover_crash hzs hal HSO.out f.power
            have hgr := (recover_g (s.power f.power) (dok_nil HSO.out.ws) (by rw [← (HZ.out.to (s' := s.power f.power) HSO.out.len).area]; omega)).2
            have hw4 : (jRecover (s.power f.power)).1.ws.length ≤ 100000 := by
              have := hgr.2.1
              have h5 : (s.power f.power).ws = [] := HSO.out.ws
              rw [h5] at this
              simp at this
              omega
            have HSEC := Lib.hid hsec
            have HSW := Lib.hid HSO.out.ws
            clear hf hsec hgr hzs hal
            go_wp2_with fail
            refine (dskPower_any w0.heap.size g F s f.power _ HD.out).mono ?_
            rintro r w4 ⟨rfl, F4, hd4, hm4, hF4⟩
            have HD4 := Lib.hid (show DskAt w0.heap.size w4 g F4 (s.power f.power) from hd4)
            have HM4 := Lib.hid (HM.out.disk HD.out hm4 (Nat.le_refl _))
            clear hd4 hm4 hF4 h0
            go_wp2_with fail
            refine (jrecover_any w0.heap.size g F4 (s.power f.power) _ HD4.out HM4.out.size (by show s.ws.length ≤ _; rw [HSW.out]; simp) (by show max f.power (-1) ≤ _; have := HFB.out; omega)).mono ?_
            rintro r w5 ⟨rfl, F5, hd5, hm5, hF5⟩
            obtain ⟨s4, hs4⟩ : ∃ s4, s4 = (jRecover (s.power f.power)).1 := ⟨_, rfl⟩
            rw [← hs4] at hd5 hw4 HSEC
            have HD5 := Lib.hid hd5
            have HM5 := Lib.hid (HM4.out.disk HD4.out hm5 (Nat.le_refl _))
            clear hs4 hd5 hm5 hF5
            obtain ⟨_, ⟨K, d, h1, hkl, hkr⟩, h2, h3⟩ := HFX.out _ HM5.out
            have HKR := Lib.hid hkr
            clear hkr
            go_wp2_with fail
            go_region_law (go_simp;
                           go_at_call 22;
                           refine (dskCrash_any w0.heap.size g F5 s4 K f.keep.length d f.keep f.n f.m (fun b => b < w.heap.size) _ (HD5.out.keep0 ((Mod.refl Nil w5).drew)) (by omega) rfl hkl (HKR.out.keep0 ((Mod.refl Nil w5).drew)) (fun k hk hF => by have := (HD5.out.lt k hF).1; have := HBW.out; omega)).mono ?_;
                           rintro r w6 ⟨rfl, F6, hd6, hm6, hF6⟩;
                           have HC6 := Lib.hid (show CrashAt w0 g X (jArea 6 l1) w6 from ⟨F6, _, hd6, HSEC.out _ _ _, ((HM5.out.drew).disk (HD5.out.keep0 ((Mod.refl Nil w5).drew)) hm6 (Nat.le_refl _))⟩);
                           clear hd6 hm6 hF6)
            all_goals
              go_simp
              go_wp2_with fail
              go_roundw
              case rel => exact ⟨i + 1, by omega, by omega, by go_num, HC6.out⟩
              case measure => simp [intOf] <;> omega
          · obtain ⟨t, ht, htl, htx⟩ : ∃ t, Stood 6 896 (jArea 6 t) (jRecover s) ∧ t.length + 12 ≤ 64 * 6 ∧ (t = l1 ∨ (t = l0 ∧ l0 ≠ l1 ∧ e4 ≠ 0)) := by
              have q0 : l0.length + 12 ≤ 64 * 6 := by rw [HL0.out]; omega
              have q1 : l1.length + 12 ≤ 64 * 6 := by rw [HL1.out]; omega
              rcases recover_ok hzs hal HSO.out with h | h
              · rcases HX1.out with hX | hX
                · by_cases h01 : l0 = l1
                  · exact ⟨l1, by rw [← h01, ← hX]; exact h, q1, .inl rfl⟩
                  · by_cases h4 : e4 = 0
                    · have := HX2.out h4
                      exact ⟨l1, by rw [← this]; exact h, q1, .inl rfl⟩
                    · exact ⟨l0, by rw [← hX]; exact h, q0, .inr ⟨rfl, h01, h4⟩⟩
                · exact ⟨l1, by rw [← hX]; exact h, q1, .inl rfl⟩
              · exact ⟨l1, h, q1, .inl rfl⟩
            have hget := ht.get hzs htl
            have HST := Lib.hid ht
            have HGET := Lib.hid hget
            have HTX := Lib.hid htx
            have HSW := Lib.hid HSO.out.ws
            have HSL := Lib.hid HSO.out.left
            clear ht hget htx htl hzs hal
            go_wp2_with fail
            refine (jrecover_any w0.heap.size g F s _ HD.out HM.out.size (by rw [HSW.out]; simp) (by rw [HSL.out]; omega)).mono ?_
            rintro r w5 ⟨rfl, F5, hd5, hm5, hF5⟩
            obtain ⟨s4, hs4⟩ : ∃ s4, s4 = (jRecover s).1 := ⟨_, rfl⟩
            rw [HST.out.1]
            rw [← hs4] at hd5 HGET
            have HSW4 := Lib.hid (show s4.ws = [] by rw [hs4]; exact HST.out.2.1)
            have HD5 := Lib.hid hd5
            have HM5 := Lib.hid (HM.out.disk HD.out hm5 (Nat.le_refl _))
            clear hs4 hd5 hm5 hF5
            go_wp2_with fail
            refine (jget_any w0.heap.size g F5 s4 _ HD5.out (by rw [HSW4.out]; simp)).mono ?_
            rw [HGET.out]
            rintro r w6 ⟨A6, n6, c6, rfl, ho6, hm6⟩
            have hn6 : t.length = n6 := by have := ho6.1; simpa using this
            have k6 := conv_bytes (l := t) (n := n6) (Rd.of_own ho6) hn6 c6
            have HM6 := Lib.hid (HM5.out.trans hm6)
            have k0 := conv_bytes (HR0.out.keep0 (HM0.out.trans HM6.out)) HL0.out c0
            have k1 := conv_bytes (HR1.out.keep0 (HM0.out.trans HM6.out)) HL1.out c1
            have HN6 := Lib.hid hn6
            clear ho6 hm6 hn6
            rcases HTX.out with htt | ⟨htt, hne, h4⟩
            · subst htt
              by_cases h4 : e4 = 0
              · subst h4
                go_wp2_with fail
                go_ret
                exact ⟨rfl, HM0.out.trans HM6.out⟩
              · have hb4 : (e4 == 0) = false := by simp [h4]
                have H4 := Lib.hid h4
                clear h4
                go_wp2_with fail
                go_ret
                exact ⟨rfl, HM0.out.trans HM6.out⟩
            · subst htt
              have hb4 : (e4 == 0) = false := by simp [h4]
              have hbs : ((str t).toList == (str l1).toList) = false := by
                rw [ByteArray.toList_eq, ByteArray.toList_eq, str_list, str_list]
                simp [hne]
              have H4 := Lib.hid h4
              have HNE := Lib.hid hne
              clear h4 hne
              go_wp2_with fail
              go_ret
              exact ⟨rfl, HM0.out.trans HM6.out⟩

end Go.Proofs.Ytjmehamkpmimkaa

namespace Go.Proofs.Ytjmehamkpmimkaa
open Go.RowKit

/-- What Open answers to four octets or more. -/
def OpenPost (l : List UInt8) (n : Nat) (w : World) (e : Ending) (w' : World) : Prop :=
  (if sealed (l.take (n - 4)) = l then ∃ v, e = .returned (.tuple #[v, .int .i64 0]) ∧ w'.ownsRow w.heap.size 5 1 v (n - 4) ((l.take (n - 4)).map bv) else e = .returned (.tuple #[.slice none 0 0, .int .i64 12])) ∧ Mod Nil w w'

set_option maxHeartbeats 1600000 in
set_option maxRecDepth 100000 in
theorem open_long (S : Nat → Prop) (A : Option Addr) (n c : Nat) (l : List UInt8) (w : World) (hn : l.length = n) (h4 : 4 ≤ n) (hnc : n ≤ c) (hbig : n ≤ 1000000000) (hr : Rd S w A (l.map bv)) :
    Calls Try.prog 81 #[.slice A n c] w (OpenPost l n w) := by
  obtain ⟨ad, rfl, _, _, _⟩ := hr (by simp; omega)
  have hT : Rd S w (some ad) ((l.take (n - 4)).map bv) := by rw [List.map_take]; exact hr.take _
  have hTl : (l.take (n - 4)).length = n - 4 := by rw [List.length_take]; omega
  have hlt := crcSum_lt (l.take (n - 4))
  have hD : Rd S w (some (ad.add (n - 4))) ((l.drop (n - 4)).map bv) := by rw [List.map_drop]; exact hr.drop _
  have hDl : (l.drop (n - 4)).length = n - (n - 4) := by rw [List.length_drop]; omega
  have HD := Lib.hid hD
  have HDL := Lib.hid hDl
  clear hD hDl
  have HT := Lib.hid hT
  have HTL := Lib.hid hTl
  have HN := Lib.hid hn
  have HR := Lib.hid hr
  clear hT hTl hn hr
  obtain ⟨b, hb⟩ : ∃ b, b = decide (sumOctets (crcSum (l.take (n - 4))) = l.drop (n - 4)) := ⟨_, rfl⟩
  have HB := Lib.hid hb
  clear hb
  go_enter Try.func81, Try.ntmps81
  go_wp2_with fail
  refine wp_flow2 (by kernel_rfl) (R := Mod Nil) [(12, .is (.slice (some ad) n c)), (13, .is (.int .i64 ((n : Int) - 4))), (14, .is (.slice (some ad) (n - 4) c)),
    (15, ⟨IsParts [l.take (n - 4)], fun _ _ _ h k => h.keep0 k⟩),
    (16, .is (.int .u32 (crcSum (l.take (n - 4)) : Nat))),
    (17, ⟨IsSl 4 ((sumOctets (crcSum (l.take (n - 4)))).map bv), fun _ _ _ h k => h.keep0 k⟩),
    (18, .is (.slice (some ad) n c)), (19, .is (.int .i64 ((n : Int) - 4))), (20, .is (.slice (some (ad.add (n - 4))) (n - (n - 4)) (c - (n - 4)))), (21, .is (.bool b)), (22, .is (.bool (!b))), (11, .is (.bool (!b)))]
    (by kernel_rfl) (Mod.refl Nil) mod_trans ?fops ?ffin
  case fops =>
    refine ⟨?_, ?_, ?_, ?_, ?_, ?_, ?_, ?_, ?_, ?_, ?_, ?_, trivial⟩
    all_goals intro a wa hR hk
    all_goals simp [Oper.looksAt, Op.operands, Call.operands, Seen, slot, St.is, Act.eval] at hk
    all_goals go_wp2_with fail
    all_goals try exact leaves_of (Mod.refl _ _) rfl
    · exact leaves_of ((Mod.refl _ _).alloc _) ⟨_, _, rfl, parts_one (HT.out.keep0 ((Mod.refl Nil w).drew.trans hR)) HTL.out (by simp [maxLen]; omega) rfl⟩
    · obtain ⟨A, c', hg, hp⟩ := hk
      rw [hg]
      refine (sum_any All _ _ _ [l.take (n - 4)] _ rfl (by simp) hp).mono ?_
      rintro e w2 ⟨rfl, rfl⟩
      exact leaves_of (Mod.refl _ _) (by simp [Holds, slot, St.is])
    · refine (octets_any _ _ hlt).mono ?_
      rintro e w3 ⟨v3, rfl, hown3, hm3⟩
      exact leaves_of hm3 (IsSl.of_own hown3)
    · obtain ⟨⟨A3, c3, h17, _, _, _, hr3⟩, h20⟩ := hk
      rw [h17]
      refine (equal_any All S _ _ _ _ _ _ (sumOctets (crcSum (l.take (n - 4)))) (l.drop (n - 4)) _ rfl HDL.out hr3 (HD.out.keep0 ((Mod.refl Nil w).drew.trans hR))).mono ?_
      rintro e w2 ⟨rfl, rfl⟩
      exact leaves_of (Mod.refl _ _) (by simp [Holds, slot, St.is, HB.out])
  case ffin =>
    intro w' vs hR hV
    simp [HoldsAll, St.is] at hV
    obtain ⟨e12, e13, e14, ⟨A2, c2, e15, _⟩, e16, ⟨A3, c3, e17, _⟩, e18, e19, e20, e21, e22, e11⟩ := hV
    simp only [List.map_cons, List.map_nil, List.foldl_cons, List.foldl_nil, Act.put, e12, e13, e14, e15, e16, e17, e18, e19, e20, e21, e22, e11, List.setIfInBounds_toArray, List.set_cons_succ, List.set_cons_zero]
    clear e12 e13 e14 e15 e16 e17 e18 e19 e20 e21 e22 e11
    have hsl : (sealed (l.take (n - 4)) = l) ↔ b = true := by
      rw [HB.out, decide_eq_true_eq]
      unfold sealed
      constructor
      · intro h
        have := congrArg (List.drop (n - 4)) h
        rw [List.drop_append_of_le_length (by rw [HTL.out]; exact Nat.le_refl _), List.drop_of_length_le (by rw [HTL.out]; exact Nat.le_refl _)] at this
        simpa using this
      · intro h
        rw [h, List.take_append_drop]
    have hm0 : Mod Nil w w' := (Mod.refl Nil w).drew.trans hR
    have HM0 := Lib.hid hm0
    have HSL := Lib.hid hsl
    clear hm0 hsl hR
    cases b
    · go_wp2_with fail
      go_ret2
      unfold OpenPost
      refine ⟨?_, HM0.out⟩
      rw [if_neg (by rw [HSL.out]; simp)]
      rfl
    · go_wp2_with fail
      refine (clone_any S (some ad) (n - 4) c (l.take (n - 4)) _ HTL.out (by omega) (HT.out.keep0 HM0.out)).mono ?_
      rintro e w1 ⟨v1, rfl, hown1, hm1⟩
      have HO1 := Lib.hid hown1
      have HM1 := Lib.hid hm1
      clear hown1 hm1
      go_wp2_with fail
      go_ret2
      unfold OpenPost
      refine ⟨?_, HM0.out.trans HM1.out⟩
      rw [if_pos (HSL.out.2 trivial)]
      exact ⟨v1, rfl, own_base HO1.out HM0.out.size⟩

end Go.Proofs.Ytjmehamkpmimkaa

namespace Go.Proofs.Ytjmehamkpmimkaa
open Go.RowKit

/-- What Open answers. -/
def openM (l : List UInt8) : List UInt8 × Int :=
  if l.length < 4 then ([], 10) else if sealed (l.take (l.length - 4)) = l then (l.take (l.length - 4), 0) else ([], 12)

theorem openM_len (l : List UInt8) : (openM l).1.length ≤ l.length := by
  unfold openM
  split
  · simp
  · split
    · rw [List.length_take]; omega
    · simp
theorem openM_sealed (l : List UInt8) : openM (sealed l) = (l, 0) := by
  have h : (sealed l).length = l.length + 4 := by simp [sealed, sumOctets]
  have ht : (sealed l).take ((sealed l).length - 4) = l := by rw [h]; simp [sealed]
  unfold openM
  rw [if_neg (by omega), ht, if_pos rfl]

theorem isSl_nil (w : World) : IsSl 0 (([] : List UInt8).map bv) (.slice none 0 0) w := ⟨none, 0, rfl, Nat.le_refl _, by simp [maxLen], rfl, Rd.nil _ _ _⟩

theorem open_any (A : Option Addr) (n c : Nat) (l : List UInt8) (w : World) (hn : l.length = n) (hnc : n ≤ c) (hbig : n ≤ 1000000000) (hr : Rd All w A (l.map bv)) :
    Calls Try.prog 81 #[.slice A n c] w fun e w' => ∃ x, e = .returned (.tuple #[x, .int .i64 (openM l).2]) ∧ IsSl (openM l).1.length ((openM l).1.map bv) x w' ∧ Mod Nil w w' := by
  by_cases h4 : n < 4
  · refine (open_short A n c w h4).mono ?_
    rintro e w' ⟨rfl, rfl⟩
    have : openM l = ([], 10) := by unfold openM; rw [if_pos (by omega)]
    rw [this]
    exact ⟨_, rfl, isSl_nil _, Mod.refl _ _⟩
  · refine (open_long All A n c l w hn (by omega) hnc hbig hr).mono ?_
    rintro e w' ⟨h, hm⟩
    by_cases hs : sealed (l.take (n - 4)) = l
    · rw [if_pos hs] at h
      obtain ⟨v, rfl, hown⟩ := h
      have : openM l = (l.take (n - 4), 0) := by unfold openM; rw [hn, if_neg h4, if_pos hs]
      rw [this]
      refine ⟨v, rfl, ?_, hm⟩
      have := IsSl.of_own hown
      rw [show (l.take (n - 4)).length = n - 4 by rw [List.length_take]; omega]
      exact this
    · rw [if_neg hs] at h
      subst h
      have : openM l = ([], 12) := by unfold openM; rw [hn, if_neg h4, if_neg hs]
      rw [this]
      exact ⟨_, rfl, isSl_nil _, hm⟩

theorem refOpen_any' (s : ByteArray) (w : World) (hs : s.size ≤ 1000000000) :
    Calls Try.prog 83 #[.string s] w fun e w' => e = .returned (.tuple #[.string (str (openM s.data.toList).1), .int .i64 (openM s.data.toList).2]) ∧ Mod Nil w w' := by
  refine (refOpen_any s w hs).mono ?_
  rintro e w' ⟨rfl, hm⟩
  refine ⟨?_, hm⟩
  have hl : s.data.toList.length = s.size := Array.length_toList
  unfold openM
  rw [hl]
  split
  · rfl
  · split <;> rfl

end Go.Proofs.Ytjmehamkpmimkaa

namespace Go.Proofs.Ytjmehamkpmimkaa
open Go.RowKit

/-- A store: its text, whether it is broken, how many texts were saved. -/
structure SSt where
  t : List UInt8
  br : Bool
  n : Int

def brv (b : Bool) : Int := if b then 1 else 0
def stCells (g : Nat) (v : Value) (b n : Int) : Array Value := #[.pointer (some ⟨g, 0, none⟩), v, .int .u32 b, .int .i64 n]
def SF (p : Nat) (v : Value) (k : Nat) : Prop := k = p ∨ v.ownBlock = some k

structure StoIs (B : Nat) (w : World) (p g : Nat) (v : Value) (s : SSt) : Prop where
  low : B ≤ p
  blk : Blk w p 122 (stCells g v (brv s.br) s.n)
  text : w.ownsRow B 5 1 v s.t.length (s.t.map bv)
  small : s.t.length ≤ 1000000
  few : 0 ≤ s.n ∧ s.n ≤ 1000000
def StoAt (B : Nat) (w : World) (p g : Nat) (G : Nat → Prop) (s : SSt) : Prop := ∃ v, G = SF p v ∧ StoIs B w p g v s

section
variable {B p g : Nat} {w w' : World} {v : Value} {s : SSt} {G H : Nat → Prop}
theorem StoIs.ne (h : StoIs B w p g v s) : v.ownBlock ≠ some p := own_blk_ne h.text h.blk (by decide)
theorem StoIs.keep (h : StoIs B w p g v s) (hm : Mod H w w') (hF : ∀ k, SF p v k → ¬ H k) : StoIs B w' p g v s :=
  ⟨h.low, h.blk.keep hm (hF _ (.inl rfl)), own_keep h.text hm (fun k hk => hF k (.inr hk)), h.small, h.few⟩
theorem StoIs.lt (h : StoIs B w p g v s) : ∀ k, SF p v k → B ≤ k ∧ k < w.heap.size := by
  intro k hk
  rcases hk with rfl | hk
  · exact ⟨h.low, h.blk.lt⟩
  · rcases h.text.2 with ⟨rfl, _⟩ | ⟨g', cap, cur, rfl, hb, hg, _⟩
    · simp [Value.ownBlock] at hk
    · have : g' = k := by simpa [Value.ownBlock] using hk
      subst this
      exact ⟨hb, (Array.getElem?_eq_some_iff.1 hg).1⟩
theorem StoAt.keep (h : StoAt B w p g G s) (hm : Mod H w w') (hF : ∀ k, G k → ¬ H k) : StoAt B w' p g G s := by
  obtain ⟨v, rfl, hs⟩ := h
  exact ⟨v, rfl, hs.keep hm hF⟩
theorem StoAt.keep0 (h : StoAt B w p g G s) (hm : Mod Nil w w') : StoAt B w' p g G s := h.keep hm (fun _ _ => id)
theorem StoAt.lt (h : StoAt B w p g G s) : ∀ k, G k → B ≤ k ∧ k < w.heap.size := by
  obtain ⟨v, rfl, hs⟩ := h
  exact hs.lt
end

/-! ### atomics -/
theorem aLoad32 {a : Addr} {x : Int} {w : World} (hc : w.cell? a = some (.int .u32 x)) : (callFunc 97 #[.pointer (some a)]).run Try.prog w = .ok (.value (.int .u32 x)) w :=
  run_call_load (P := Try.prog) Try.func97 (by kernel_rfl) (by kernel_rfl) (by kernel_rfl) .u32 (by kernel_rfl) hc
theorem aLoad64 {a : Addr} {x : Int} {w : World} (hc : w.cell? a = some (.int .i64 x)) : (callFunc 104 #[.pointer (some a)]).run Try.prog w = .ok (.value (.int .i64 x)) w :=
  run_call_load (P := Try.prog) Try.func104 (by kernel_rfl) (by kernel_rfl) (by kernel_rfl) .i64 (by kernel_rfl) hc

theorem bLoad_any (p i : Nat) (b : Bool) (w : World) (hc : w.cell? ⟨p, i, none⟩ = some (.int .u32 (brv b))) :
    Calls Try.prog 78 #[.pointer (some ⟨p, i, none⟩)] w fun r w' => r = .returned (.bool b) ∧ w = w' := by
  have hl := aLoad32 hc
  go_enter Try.func78, Try.ntmps78
  go_wp2_with fail
  go_ret
  refine ⟨?_, rfl⟩
  cases b <;> rfl
theorem nLoad_any (p i : Nat) (n : Int) (w : World) (hc : w.cell? ⟨p, i, none⟩ = some (.int .i64 n)) :
    Calls Try.prog 101 #[.pointer (some ⟨p, i, none⟩)] w fun r w' => r = .returned (.int .i64 n) ∧ w = w' := by
  have hl := aLoad64 hc
  go_enter Try.func101, Try.ntmps101
  go_wp2_with fail
  go_ret
  exact ⟨rfl, rfl⟩
theorem nAdd_any (p i : Nat) (n : Int) (w : World) (hc : w.cell? ⟨p, i, none⟩ = some (.int .i64 n)) (hz : w.frozen? ⟨p, i, none⟩ = false) (h0 : 0 ≤ n) (h1 : n ≤ 1000000) :
    Calls Try.prog 79 #[.pointer (some ⟨p, i, none⟩), .int .i64 1] w fun r w' => r = .returned (.int .i64 (n + 1)) ∧ w' = w.setCell ⟨p, i, none⟩ (.int .i64 (n + 1)) := by
  have ha := run_call_add (P := Try.prog) Try.func98 (by kernel_rfl) (by kernel_rfl) (by kernel_rfl) .i64 (by kernel_rfl) (y := 1) (s := n + 1) hc hz (by have hw : IntKind.i64.wrap (n + 1) = n + 1 := IntWalk.i64_in _ (by omega); simp [go_sem, hw])
  go_enter Try.func79, Try.ntmps79
  go_wp2_with fail
  go_ret
  exact ⟨rfl, rfl⟩

theorem b32_any (b : Bool) (w : World) : Calls Try.prog 100 #[.bool b] w fun r w' => r = .returned (.int .u32 (brv b)) ∧ w = w' := by
  cases b
  all_goals
    go_enter Try.func100, Try.ntmps100
    go_wp2_with fail
    go_ret
    exact ⟨rfl, rfl⟩
theorem bStore_any (p i : Nat) (b : Bool) (x : Value) (w : World) (hc : w.cell? ⟨p, i, none⟩ = some x) (hz : w.frozen? ⟨p, i, none⟩ = false) :
    Calls Try.prog 80 #[.pointer (some ⟨p, i, none⟩), .bool b] w fun r w' => r = .returned (.tuple #[]) ∧ w' = w.drew.setCell ⟨p, i, none⟩ (.int .u32 (brv b)) := by
  have hst := run_call_store (P := Try.prog) Try.func99 (by kernel_rfl) (by kernel_rfl) (by kernel_rfl) (by kernel_rfl) (k := .u32) (y := brv b) (w := w.drew) hc hz
  go_enter Try.func80, Try.ntmps80
  go_region_law (go_simp
                 go_at_call 100
                 refine (b32_any b _).mono ?_
                 rintro r w1 ⟨rfl, rfl⟩)
  all_goals go_end0
  all_goals exact ⟨rfl, rfl⟩

/-! ### crc.Open: what it answers is the call's own -/
theorem own_nil (w : World) (B : Nat) (e : TypeId) : w.ownsRow B e 1 (.slice none 0 0) 0 ([] : List Value) := ⟨rfl, .inl ⟨rfl, rfl⟩⟩
theorem openOwn_any (A : Option Addr) (n c : Nat) (l : List UInt8) (w : World) (hn : l.length = n) (hnc : n ≤ c) (hbig : n ≤ 1000000000) (hr : Rd All w A (l.map bv)) :
    Calls Try.prog 81 #[.slice A n c] w fun e w' => ∃ x, e = .returned (.tuple #[x, .int .i64 (openM l).2]) ∧ w'.ownsRow w.heap.size 5 1 x (openM l).1.length ((openM l).1.map bv) ∧ Mod Nil w w' := by
  by_cases h4 : n < 4
  · refine (open_short A n c w h4).mono ?_
    rintro e w' ⟨rfl, rfl⟩
    have : openM l = ([], 10) := by unfold openM; rw [if_pos (by omega)]
    rw [this]
    exact ⟨_, rfl, own_nil _ _ _, Mod.refl _ _⟩
  · refine (open_long All A n c l w hn (by omega) hnc hbig hr).mono ?_
    rintro e w' ⟨h, hm⟩
    by_cases hs : sealed (l.take (n - 4)) = l
    · rw [if_pos hs] at h
      obtain ⟨v, rfl, hown⟩ := h
      have : openM l = (l.take (n - 4), 0) := by unfold openM; rw [hn, if_neg h4, if_pos hs]
      rw [this]
      refine ⟨v, rfl, ?_, hm⟩
      rw [show (l.take (n - 4)).length = n - 4 by rw [List.length_take]; omega]
      exact hown
    · rw [if_neg hs] at h
      subst h
      have : openM l = ([], 12) := by unfold openM; rw [hn, if_neg h4, if_neg hs]
      rw [this]
      exact ⟨_, rfl, own_nil _ _ _, hm⟩

/-! ### Format -/
def StoMade (B : Nat) (w : World) (g : Nat) (F : Nat → Prop) (d' : DSt) (e : Int) (t : List UInt8) (r : Ending) (w' : World) : Prop :=
  ∃ F', DskAt B w' g F' d' ∧ Mod F w w' ∧ (∀ k, F' k → F k ∨ w.heap.size ≤ k) ∧
    ((e = 0 ∧ ∃ p G, r = .returned (.tuple #[.pointer (some ⟨p, 0, none⟩), .int .i64 0]) ∧ StoAt B w' p g G ⟨t, false, 0⟩ ∧ ∀ k, G k → w.heap.size ≤ k ∧ ¬ F' k) ∨ (e ≠ 0 ∧ r = .returned (.tuple #[.pointer none, .int .i64 e])))

theorem sealed_len (t : List UInt8) : (sealed t).length = t.length + 4 := by simp [sealed, sumOctets]

theorem sto_new {B g B1 : Nat} {v : Value} {t : List UInt8} {w : World} (hB : B ≤ w.heap.size) (hB1 : B ≤ B1) (h : w.ownsRow B1 5 1 v t.length (t.map bv)) (hs : t.length ≤ 1000000) :
    StoIs B (w.alloc (.cells (stCells g v 0 0) 122)) w.heap.size g v ⟨t, false, 0⟩ :=
  ⟨hB, Blk.new _ _ _, own_base (own_keep h ((Mod.refl Nil w).alloc _) (fun _ _ => id)) hB1, hs, by simp, by simp⟩

set_option maxHeartbeats 3200000 in
set_option maxRecDepth 100000 in
theorem stoFormat_any (B g : Nat) (F S : Nat → Prop) (d : DSt) (A : Option Addr) (n c : Nat) (t : List UInt8) (w : World) (h : DskAt B w g F d) (hB : B ≤ w.heap.size) (ht : t.length = n) (hn : n ≤ 1000000) (hr : Rd S w A (t.map bv)) (hS : ∀ k, S k → ¬ F k) (hbig : d.ws.length ≤ 400000) (hl : d.left ≤ 9223372036854775807) :
    Calls Try.prog 35 #[.pointer (some ⟨g, 0, none⟩), .slice A n c] w (StoMade B w g F (jFormat (sealed t) d).1 (jFormat (sealed t) d).2 t) := by
  have HD := Lib.hid h
  have HR := Lib.hid hr
  have HT := Lib.hid ht
  have HS := Lib.hid hS
  clear h hr ht hS
  go_enter Try.func35, Try.ntmps35
  go_wp2_with fail
  refine (seal_any S A n c t _ HT.out (by omega) HR.out).mono ?_
  rintro r w1 ⟨v1, rfl, ho1, hm1⟩
  obtain ⟨A1, c1, rfl, _, _⟩ := own_slice ho1
  have HO1 := Lib.hid ho1
  have HM1 := Lib.hid hm1
  clear ho1 hm1
  go_wp2_with fail
  refine (jformat_any B g F d A1 (n + 4) c1 (sealed t) _ (HD.out.keep0 HM1.out) (Nat.le_trans hB HM1.out.size) (by rw [sealed_len, HT.out]) ((Rd.of_own HO1.out).mono (fun _ _ _ => trivial)) hbig hl).mono ?_
  rintro r w2 ⟨rfl, F2, hd2, hm2, hF2⟩
  obtain ⟨e, he⟩ : ∃ e, e = (jFormat (sealed t) d).2 := ⟨_, rfl⟩
  obtain ⟨d2, hd2e⟩ : ∃ d2, d2 = (jFormat (sealed t) d).1 := ⟨_, rfl⟩
  rw [← he]
  rw [← hd2e] at hd2
  have HP := Lib.hid (show jFormat (sealed t) d = (d2, e) by rw [he, hd2e])
  have HD2 := Lib.hid hd2
  have HM2 := Lib.hid (show Mod F w w2 from (HM1.out.any).trans hm2)
  have HF2 := Lib.hid (show ∀ k, F2 k → F k ∨ w.heap.size ≤ k from fun k hk => (hF2 k hk).imp id (fun h => Nat.le_trans HM1.out.size h))
  have HR2 := Lib.hid (HR.out.keep HM2.out HS.out)
  clear hd2 hm2 hF2 he hd2e
  by_cases h0 : e = 0
  · subst h0
    go_wp2_with fail
    refine (clone_any S A n c t _ HT.out (by omega) HR2.out).mono ?_
    rintro r w3 ⟨v3, rfl, ho3, hm3⟩
    obtain ⟨A3, c3, rfl, _, _⟩ := own_slice ho3
    have HO3 := Lib.hid ho3
    have HM3 := Lib.hid hm3
    have HSZ := Lib.hid (show B ≤ w2.heap.size from Nat.le_trans hB HM2.out.size)
    clear ho3 hm3
    go_wp2_with fail
    go_ret2
    rw [HP.out]
    have hk := (sto_new (g := g) (Nat.le_trans HSZ.out HM3.out.size) HSZ.out (by rw [HT.out]; exact HO3.out) (by rw [HT.out]; exact hn))
    refine ⟨F2, HD2.out.keep0 (HM3.out.alloc _), HM2.out.trans' (HM3.out.alloc _) (fun _ _ h => h) (fun _ _ h => h.elim), HF2.out, .inl ⟨rfl, w3.heap.size, _, rfl, ⟨_, rfl, hk⟩, fun k hk => ?_⟩⟩
    have hlo : w2.heap.size ≤ k := by
      rcases hk with rfl | hk
      · exact HM3.out.size
      · exact (StoIs.lt (B := w2.heap.size) (sto_new (g := g) HM3.out.size (Nat.le_refl _) (by rw [HT.out]; exact HO3.out) (by rw [HT.out]; exact hn)) k (.inr hk)).1
    exact ⟨Nat.le_trans HM2.out.size hlo, fun hF => by have := (HD2.out.lt k hF).2; omega⟩
  · go_wp2_with fail
    go_ret2
    rw [HP.out]
    exact ⟨F2, HD2.out, HM2.out, HF2.out, .inr ⟨h0, rfl⟩⟩
end Go.Proofs.Ytjmehamkpmimkaa

namespace Go.Proofs.Ytjmehamkpmimkaa
open Go.RowKit

/-- What Open does with a disk: the disk, the text, the error. -/
def sOpen (d : DSt) : DSt × List UInt8 × Int :=
  if (jRecover d).2 ≠ 0 then ((jRecover d).1, [], (jRecover d).2)
  else if (jGet (jRecover d).1).2 ≠ 0 then ((jRecover d).1, [], (jGet (jRecover d).1).2)
  else ((jRecover d).1, openM (jGet (jRecover d).1).1)

theorem sOpen_bad {d d2 : DSt} {e : Int} (h : jRecover d = (d2, e)) (h0 : e ≠ 0) : sOpen d = (d2, [], e) := by
  unfold sOpen; rw [h, if_pos h0]
theorem sOpen_bad2 {d d2 : DSt} {t : List UInt8} {e : Int} (h : jRecover d = (d2, 0)) (h2 : jGet d2 = (t, e)) (h0 : e ≠ 0) : sOpen d = (d2, [], e) := by
  unfold sOpen; rw [h, if_neg (by simp), h2, if_pos h0]
theorem sOpen_ok {d d2 : DSt} {t : List UInt8} (h : jRecover d = (d2, 0)) (h2 : jGet d2 = (t, 0)) : sOpen d = (d2, openM t) := by
  unfold sOpen; rw [h, if_neg (by simp), h2, if_neg (by simp)]

theorem jGet_len {s : DSt} (h1 : 1 ≤ s.secs) (h6 : s.secs ≤ 65536) : (jGet s).1.length ≤ 2097152 := by
  unfold jGet
  split
  · simp
  · split
    · rename_i h h2
      simp only [List.length_take]
      rcases room_cases h1 h6 with ⟨h3, _⟩ | ⟨h3, _, _, h4, _⟩
      · omega
      · rw [h3] at h2
        omega
    · simp

set_option maxHeartbeats 3200000 in
set_option maxRecDepth 100000 in
theorem stoOpen_any (B g : Nat) (F : Nat → Prop) (d : DSt) (w : World) (h : DskAt B w g F d) (hB : B ≤ w.heap.size) (hbig : d.ws.length ≤ 400000) (hl : d.left ≤ 9223372036854775807) (hsm : (jGet (jRecover d).1).1.length ≤ 1000000) :
    Calls Try.prog 37 #[.pointer (some ⟨g, 0, none⟩)] w (StoMade B w g F (sOpen d).1 (sOpen d).2.2 (sOpen d).2.1) := by
  have hsz := h.sized
  have hgr := (recover_g d hsz.2.2.2 (by unfold jA; omega)).2
  have HD := Lib.hid h
  clear h
  have hws : (jRecover d).1.ws.length ≤ 1000000 := by have := hgr.2.1; omega
  go_enter Try.func37, Try.ntmps37
  go_wp2_with fail
  refine (jrecover_any B g F d _ HD.out hB hbig hl).mono ?_
  rintro r w2 ⟨rfl, F2, hd2, hm2, hF2⟩
  obtain ⟨d2, hd2e⟩ : ∃ d2, d2 = (jRecover d).1 := ⟨_, rfl⟩
  obtain ⟨e, he⟩ : ∃ e, e = (jRecover d).2 := ⟨_, rfl⟩
  rw [← hd2e] at hd2 hws hsm
  rw [← he]
  have HRE := Lib.hid (show jRecover d = (d2, e) by rw [he, hd2e])
  have HD2 := Lib.hid hd2
  have HM2 := Lib.hid hm2
  have HF2 := Lib.hid hF2
  have HWS := Lib.hid hws
  clear hd2 hm2 hF2 he hd2e hsz hgr hws
  by_cases h0 : e = 0
  · subst h0
    go_wp2_with fail
    refine (jget_any B g F2 d2 _ HD2.out HWS.out).mono ?_
    rintro r w3 ⟨A3, n3, c3, rfl, ho3, hm3⟩
    have hnc : n3 ≤ c3 := by
      obtain ⟨A', c', hv, hnc, _⟩ := own_slice ho3
      injection hv with _ _ h3
      omega
    obtain ⟨t, ht⟩ : ∃ t, t = (jGet d2).1 := ⟨_, rfl⟩
    obtain ⟨e, he⟩ : ∃ e, e = (jGet d2).2 := ⟨_, rfl⟩
    rw [← ht] at ho3 hsm
    rw [← he]
    have HTE := Lib.hid (show jGet d2 = (t, e) by rw [ht, he])
    have HN := Lib.hid (show t.length = n3 by have := ho3.1; simpa using this)
    have HO3 := Lib.hid ho3
    have HM3 := Lib.hid hm3
    have HSM := Lib.hid hsm
    have HNC := Lib.hid hnc
    clear ht he ho3 hm3 hsm hnc
    by_cases h0 : e = 0
    · subst h0
      go_wp2_with fail
      refine (openOwn_any A3 n3 c3 t _ HN.out HNC.out (by have := HN.out; have := HSM.out; omega) ((Rd.of_own HO3.out).mono (fun _ _ _ => trivial))).mono ?_
      rintro r w4 ⟨v4, rfl, ho4, hm4⟩
      obtain ⟨A4, c4, rfl, _, _⟩ := own_slice ho4
      have hle := openM_len t
      obtain ⟨t4, ht4⟩ : ∃ t4, t4 = (openM t).1 := ⟨_, rfl⟩
      obtain ⟨e, he⟩ : ∃ e, e = (openM t).2 := ⟨_, rfl⟩
      rw [← ht4] at ho4 hle ⊢
      rw [← he]
      have HE := Lib.hid (show sOpen d = (d2, t4, e) by rw [sOpen_ok HRE.out HTE.out, ht4, he])
      have HO4 := Lib.hid ho4
      have HM4 := Lib.hid (HM3.out.trans hm4)
      have HLE := Lib.hid (show t4.length ≤ 1000000 by have := HSM.out; omega)
      have HSZ := Lib.hid (show B ≤ w2.heap.size from Nat.le_trans hB HM2.out.size)
      have HSZ3 := Lib.hid HM3.out.size
      clear ht4 he ho4 hm4 hle
      by_cases h0 : e = 0
      · subst h0
        go_wp2_with fail
        go_ret2
        have hk := fun B' (h : B' ≤ w2.heap.size) => sto_new (B := B') (g := g) (Nat.le_trans h HM4.out.size) (Nat.le_trans h HSZ3.out) HO4.out HLE.out
        rw [HE.out]
        refine ⟨F2, HD2.out.keep0 (HM4.out.alloc _), HM2.out.trans' (HM4.out.alloc _) (fun _ _ h => h) (fun _ _ h => h.elim), HF2.out, .inl ⟨rfl, w4.heap.size, _, rfl, ⟨_, rfl, hk B HSZ.out⟩, fun k hkk => ?_⟩⟩
        have hlo : w2.heap.size ≤ k := ((hk _ (Nat.le_refl _)).lt k hkk).1
        exact ⟨Nat.le_trans HM2.out.size hlo, fun hF => by have := (HD2.out.lt k hF).2; omega⟩
      · go_wp2_with fail
        go_ret2
        rw [HE.out]
        exact ⟨F2, HD2.out.keep0 HM4.out, HM2.out.trans' HM4.out (fun _ _ h => h) (fun _ _ h => h.elim), HF2.out, .inr ⟨h0, rfl⟩⟩
    · go_wp2_with fail
      go_ret2
      rw [sOpen_bad2 HRE.out HTE.out h0]
      exact ⟨F2, HD2.out.keep0 HM3.out, HM2.out.trans' HM3.out (fun _ _ h => h) (fun _ _ h => h.elim), HF2.out, .inr ⟨h0, rfl⟩⟩
  · go_wp2_with fail
    go_ret2
    rw [sOpen_bad HRE.out h0]
    exact ⟨F2, HD2.out, HM2.out, HF2.out, .inr ⟨h0, rfl⟩⟩

/-! ### Save -/
def sSave (t : List UInt8) (s : SSt) (d : DSt) : SSt × DSt × Int :=
  if s.br = true then (s, d, 80)
  else if (jPut (sealed t) d).2 = 0 then (⟨t, false, s.n + 1⟩, (jPut (sealed t) d).1, 0)
  else if (jPut (sealed t) d).2 = 21 then (s, (jPut (sealed t) d).1, 21)
  else (⟨s.t, true, s.n⟩, (jPut (sealed t) d).1, 80)

def SavePost (B : Nat) (w : World) (p g : Nat) (F G : Nat → Prop) (s' : SSt) (d' : DSt) (e : Int) (r : Ending) (w' : World) : Prop :=
  r = .returned (.int .i64 e) ∧ ∃ F' G', DskAt B w' g F' d' ∧ StoAt B w' p g G' s' ∧ (∀ k, F' k → ¬ G' k) ∧ Mod (fun k => F k ∨ G k) w w' ∧ (∀ k, F' k → F k ∨ w.heap.size ≤ k) ∧ ∀ k, G' k → G k ∨ w.heap.size ≤ k

theorem save_nil (A : Option Addr) (n c : Nat) (w : World) : Calls Try.prog 36 #[.pointer none, .slice A n c] w fun r w' => r = .returned (.int .i64 2) ∧ w = w' := by
  go_enter Try.func36, Try.ntmps36
  go_wp2_with fail
  go_ret
  exact ⟨rfl, rfl⟩

set_option maxHeartbeats 6400000 in
set_option maxRecDepth 100000 in
theorem stoSave_any (B p g : Nat) (F G S : Nat → Prop) (s : SSt) (d : DSt) (A : Option Addr) (n c : Nat) (t : List UInt8) (w : World) (hd : DskAt B w g F d) (hs : StoAt B w p g G s) (hFG : ∀ k, F k → ¬ G k) (hB : B ≤ w.heap.size)
    (ht : t.length = n) (hn : n ≤ 1000000) (hr : Rd S w A (t.map bv)) (hS : ∀ k, S k → ¬ F k) (hbig : d.ws.length ≤ 400000) (hl : d.left ≤ 9223372036854775807) (hfew : s.n ≤ 999999) :
    Calls Try.prog 36 #[.pointer (some ⟨p, 0, none⟩), .slice A n c] w (SavePost B w p g F G (sSave t s d).1 (sSave t s d).2.1 (sSave t s d).2.2) := by
  subst ht
  obtain ⟨v, rfl, hs⟩ := hs
  have HD := Lib.hid hd
  have HI := Lib.hid hs
  have HR := Lib.hid hr
  have HS := Lib.hid hS
  have HFG := Lib.hid hFG
  have HGL := Lib.hid hs.lt
  obtain ⟨st, br, sn⟩ := s
  have hc2 : w.cell? ⟨p, 2, none⟩ = some (.int .u32 (brv br)) := hs.blk.cell 2
  have hfew2 : 0 ≤ sn := hs.few.1
  replace hfew : sn ≤ 999999 := hfew
  have HC0 := Lib.hid (show w.drew.cell? ⟨p, 0, none⟩ = some (.pointer (some ⟨g, 0, none⟩)) from hs.blk.cell 0)
  clear hd hs hr hS hFG
  cases br
  · go_enter Try.func36, Try.ntmps36
    go_wp2_with fail
    refine (bLoad_any p 2 false w hc2).mono ?_
    rintro r w1 ⟨rfl, rfl⟩
    clear hc2
    have hc0 := HC0.out
    go_wp2_with fail
    obtain ⟨e, he⟩ : ∃ e, e = (jPut (sealed t) d).2 := ⟨_, rfl⟩
    obtain ⟨d2, hd2e⟩ : ∃ d2, d2 = (jPut (sealed t) d).1 := ⟨_, rfl⟩
    have HP := Lib.hid (show jPut (sealed t) d = (d2, e) by rw [he, hd2e])
    clear he hd2e
    go_region_law (first
      | (go_simp
         go_at_call 77
         refine (seal_any S A t.length c t _ rfl (by omega) (HR.out.keep0 ((Mod.refl Nil w).drew))).mono ?_
         rintro r w1 ⟨v1, rfl, ho1, hm1⟩
         obtain ⟨A1, c1, rfl, _, _⟩ := own_slice ho1
         have hc0 : w1.cell? ⟨p, 0, none⟩ = some (.pointer (some ⟨g, 0, none⟩)) := ((HI.out.blk.keep ((Mod.refl Nil w).drew) id).keep hm1 id).cell 0
         have HO1 := Lib.hid ho1
         have HM1 := Lib.hid (show Mod Nil w w1 from ((Mod.refl Nil w).drew).trans hm1)
         clear ho1 hm1)
      | (go_simp
         go_at_call 16
         refine (jput_any B g F d A1 (t.length + 4) c1 (sealed t) _ (HD.out.keep0 HM1.out) (Nat.le_trans hB HM1.out.size) (by rw [sealed_len]) ((Rd.of_own HO1.out).mono (fun _ _ _ => trivial)) hbig hl).mono ?_
         rintro r w2 ⟨rfl, F2, hd2, hm2, hF2⟩
         rw [HP.out] at hd2 ⊢
         have HD2 := Lib.hid (show DskAt B w2 g F2 d2 from hd2)
         have HM2 := Lib.hid (show Mod F w w2 from HM1.out.any.trans hm2)
         have HF2 := Lib.hid (show ∀ k, F2 k → F k ∨ w.heap.size ≤ k from fun k hk => (hF2 k hk).imp id (fun h => Nat.le_trans HM1.out.size h))
         clear hd2 hm2 hF2))
    all_goals
      go_simp
      by_cases h0 : e = 0
      · subst h0
        have HR2 := Lib.hid (HR.out.keep HM2.out HS.out)
        go_wp2_with fail
        refine (clone_any S A t.length c t _ rfl (by omega) HR2.out).mono ?_
        rintro r w3 ⟨v3, rfl, ho3, hm3⟩
        obtain ⟨A3, c3, rfl, _, _⟩ := own_slice ho3
        have hpF : ∀ k, F k → ¬ k = p := fun k hk he => HFG.out k hk (.inl he)
        have hp0 := HGL.out p (.inl rfl)
        have hpF2 : ∀ k, F2 k → ¬ k = p := fun k hk he => (HF2.out k hk).elim (fun h => hpF k h he) (fun h => by omega)
        have hb3 := (HI.out.blk.keep HM2.out (fun h => hpF _ h rfl)).keep hm3 id
        have HPF2 := Lib.hid hpF2
        have HP0 := Lib.hid hp0
        have HB3 := Lib.hid hb3
        have HO3 := Lib.hid ho3
        have HM3 := Lib.hid hm3
        have hc1 : w3.cell? ⟨p, 1, none⟩ = some v := hb3.cell 1
        have hz1 := hb3.frozen 1
        clear hpF hp0 hpF2 hb3 ho3 hm3
        go_wp2_with fail
        refine (nAdd_any p 3 sn _ ((HB3.out.set_ 1 (.slice A3 t.length c3)).cell 3) ((HB3.out.set_ 1 (.slice A3 t.length c3)).frozen 3) hfew2 (by omega)).mono ?_
        rintro r w4 ⟨rfl, rfl⟩
        go_wp2_with fail
        go_ret
        rw [show sSave t ⟨st, false, sn⟩ d = (⟨t, false, sn + 1⟩, d2, 0) by unfold sSave; rw [HP.out]; simp]
        have hmp : Mod (fun k => k = p) w3 ((w3.setCell ⟨p, 1, none⟩ (.slice A3 t.length c3)).setCell ⟨p, 3, none⟩ (.int .i64 (sn + 1))) := ((Mod.refl (fun k => k = p) w3).set (p := ⟨p, 1, none⟩) (.inl rfl) _).set (p := ⟨p, 3, none⟩) (.inl rfl) _
        have hd3 := (HD2.out.keep0 HM3.out).keep hmp HPF2.out
        have hlow : ∀ k, (Value.slice A3 t.length c3).ownBlock = some k → w2.heap.size ≤ k := fun k hk => by
          rcases HO3.out.2 with ⟨h, _⟩ | ⟨g', cap, cur, h, hb, _⟩
          · rw [h] at hk; simp [Value.ownBlock] at hk
          · rw [h] at hk
            have : g' = k := by simpa [Value.ownBlock] using hk
            omega
        have hpw2 : p < w2.heap.size := Nat.lt_of_lt_of_le HP0.out.2 HM2.out.size
        have ho4 := own_keep HO3.out hmp (fun k hk he => by have := hlow k hk; omega)
        refine ⟨rfl, F2, _, hd3, ⟨_, rfl, ⟨HI.out.low, ?_, own_base ho4 (Nat.le_trans hB HM2.out.size), hn, ⟨by show 0 ≤ sn + 1; omega, by show sn + 1 ≤ 1000000; omega⟩⟩⟩, ?_, ?_, HF2.out, ?_⟩
        · exact ((HB3.out.set_ 1 (.slice A3 t.length c3)).set_ 3 (.int .i64 (sn + 1)))
        · intro k hk hk2
          rcases hk2 with hk2 | hk2
          · exact HPF2.out k hk hk2
          · have := hlow k hk2; have := (HD2.out.lt k hk).2; omega
        · refine (HM2.out.trans' (HM3.out.trans' (H := fun k => k = p) hmp (fun _ _ h => h.elim) (fun _ _ h => h)) (fun _ _ h => .inl h) (fun k _ h => .inr (.inl h)))
        · intro k hk
          rcases hk with hk | hk
          · exact .inl (.inl hk)
          · exact .inr (Nat.le_trans HM2.out.size (hlow k hk))
      · have hb2 := HI.out.blk.keep HM2.out (fun h => HFG.out _ h (.inl rfl))
        have HB2 := Lib.hid hb2
        have HI2 := Lib.hid (HI.out.keep HM2.out (fun k hk hF => HFG.out k hF hk))
        have hp0 := HGL.out p (.inl rfl)
        have hG2 : ∀ k, F2 k → ¬ SF p v k := fun k hk hs => (HF2.out k hk).elim (fun h => HFG.out k h hs) (fun h => by have := HGL.out k hs; omega)
        have HG2 := Lib.hid hG2
        clear hp0 hG2 hb2
        by_cases h21 : e = 21
        · subst h21
          go_wp2_with fail
          go_ret
          rw [show sSave t ⟨st, false, sn⟩ d = (⟨st, false, sn⟩, d2, 21) by unfold sSave; rw [HP.out]; simp]
          exact ⟨rfl, F2, _, HD2.out, ⟨v, rfl, HI2.out⟩, HG2.out, HM2.out.mono (fun _ _ h => .inl h), HF2.out, fun _ h => .inl h⟩
        · go_wp2_with fail
          refine (bStore_any p 2 true _ _ (HB2.out.cell 2) (HB2.out.frozen 2)).mono ?_
          rintro r w4 ⟨rfl, rfl⟩
          go_wp2_with fail
          go_ret
          rw [show sSave t ⟨st, false, sn⟩ d = (⟨st, true, sn⟩, d2, 80) by unfold sSave; rw [HP.out]; simp [h0, h21]]
          have hmp : Mod (fun k => k = p) w2 (w2.drew.setCell ⟨p, 2, none⟩ (.int .u32 (brv true))) := ((Mod.refl (fun k => k = p) w2).drew).set (p := ⟨p, 2, none⟩) (.inl rfl) _
          refine ⟨rfl, F2, _, HD2.out.keep hmp (fun k hk he => HG2.out k hk (.inl he)), ⟨v, rfl, ⟨HI2.out.low, (HB2.out.drew).set_ 2 _, own_keep HI2.out.text hmp (fun k hk he => HI.out.ne (he ▸ hk)), HI2.out.small, HI2.out.few⟩⟩, HG2.out, ?_, HF2.out, fun _ h => .inl h⟩
          exact HM2.out.trans' hmp (fun _ _ h => .inl h) (fun k _ h => .inr (.inl h))
  · go_enter Try.func36, Try.ntmps36
    go_wp2_with fail
    refine (bLoad_any p 2 true w hc2).mono ?_
    rintro r w1 ⟨rfl, rfl⟩
    clear hc2
    go_wp2_with fail
    go_ret
    rw [show sSave t ⟨st, true, sn⟩ d = (⟨st, true, sn⟩, d, 80) by unfold sSave; simp]
    exact ⟨rfl, F, _, HD.out, ⟨v, rfl, HI.out⟩, HFG.out, Mod.refl _ _, fun _ h => .inl h, fun _ h => .inl h⟩

/-! ### what a store tells -/
theorem text_nil (w : World) : Calls Try.prog 38 #[.pointer none] w fun r w' => r = .returned (.slice none 0 0) ∧ w = w' := by
  go_enter Try.func38, Try.ntmps38
  go_wp2_with fail
  go_ret
  exact ⟨rfl, rfl⟩
theorem text_any (B p g : Nat) (G : Nat → Prop) (s : SSt) (w : World) (hs : StoAt B w p g G s) :
    Calls Try.prog 38 #[.pointer (some ⟨p, 0, none⟩)] w fun r w' => ∃ A c, r = .returned (.slice A s.t.length c) ∧ w'.ownsRow w.heap.size 5 1 (.slice A s.t.length c) s.t.length (s.t.map bv) ∧ Mod Nil w w' := by
  obtain ⟨v, rfl, hs⟩ := hs
  have hc1 : w.cell? ⟨p, 1, none⟩ = some v := hs.blk.cell 1
  have HI := Lib.hid hs
  obtain ⟨A, c, rfl, _, _⟩ := own_slice hs.text
  have hsm := hs.small
  clear hs
  go_enter Try.func38, Try.ntmps38
  go_wp2_with fail
  refine (clone_any _ A s.t.length c s.t _ rfl (by omega) (Rd.of_own HI.out.text)).mono ?_
  rintro r w3 ⟨v3, rfl, ho3, hm3⟩
  obtain ⟨A3, c3, rfl, _, _⟩ := own_slice ho3
  have HO3 := Lib.hid ho3
  have HM3 := Lib.hid hm3
  clear ho3 hm3
  go_wp2_with fail
  go_ret
  exact ⟨A3, c3, rfl, HO3.out, HM3.out⟩
theorem stoRoom_nil (w : World) : Calls Try.prog 84 #[.pointer none] w fun r w' => r = .returned (.int .i64 (-1)) ∧ w = w' := by
  go_enter Try.func84, Try.ntmps84
  go_wp2_with fail
  go_ret
  exact ⟨rfl, rfl⟩
theorem jRoom_bd (x : Int) : -1 ≤ jRoom x ∧ jRoom x ≤ 2097152 := by
  unfold jRoom
  split
  · omega
  · split <;> omega
theorem stoRoom_any (B p g : Nat) (F G : Nat → Prop) (s : SSt) (d : DSt) (w : World) (hd : DskAt B w g F d) (hs : StoAt B w p g G s) :
    Calls Try.prog 84 #[.pointer (some ⟨p, 0, none⟩)] w fun r w' => r = .returned (.int .i64 (jRoom d.secs - 4)) ∧ w = w' := by
  obtain ⟨v, rfl, hs⟩ := hs
  have hc0 : w.cell? ⟨p, 0, none⟩ = some (.pointer (some ⟨g, 0, none⟩)) := hs.blk.cell 0
  have hj := jRoom_bd ((d.S.length : Int) / 64)
  have HD := Lib.hid hd
  clear hd hs
  go_enter Try.func84, Try.ntmps84
  go_wp2_with fail
  refine (dskSize_any B g F d w HD.out).mono ?_
  rintro r w1 ⟨rfl, rfl⟩
  go_wp2_with fail
  refine (Room_any _ _).mono ?_
  rintro r w1 ⟨rfl, rfl⟩
  go_wp2_with fail
  go_ret
  rw [show (d.secs : Int) = (d.S.length : Int) / 64 by unfold DSt.secs; omega]
  exact ⟨rfl, rfl⟩
theorem broken_nil (w : World) : Calls Try.prog 85 #[.pointer none] w fun r w' => r = .returned (.bool true) ∧ w = w' := by
  go_enter Try.func85, Try.ntmps85
  go_wp2_with fail
  go_ret
  exact ⟨rfl, rfl⟩
theorem broken_any (B p g : Nat) (G : Nat → Prop) (s : SSt) (w : World) (hs : StoAt B w p g G s) :
    Calls Try.prog 85 #[.pointer (some ⟨p, 0, none⟩)] w fun r w' => r = .returned (.bool s.br) ∧ w = w' := by
  obtain ⟨v, rfl, hs⟩ := hs
  have hc2 : w.cell? ⟨p, 2, none⟩ = some (.int .u32 (brv s.br)) := hs.blk.cell 2
  clear hs
  go_enter Try.func85, Try.ntmps85
  go_wp2_with fail
  refine (bLoad_any p 2 s.br w hc2).mono ?_
  rintro r w1 ⟨rfl, rfl⟩
  go_wp2_with fail
  go_ret
  exact ⟨rfl, rfl⟩
theorem saves_nil (w : World) : Calls Try.prog 86 #[.pointer none] w fun r w' => r = .returned (.int .i64 0) ∧ w = w' := by
  go_enter Try.func86, Try.ntmps86
  go_wp2_with fail
  go_ret
  exact ⟨rfl, rfl⟩
theorem saves_any (B p g : Nat) (G : Nat → Prop) (s : SSt) (w : World) (hs : StoAt B w p g G s) :
    Calls Try.prog 86 #[.pointer (some ⟨p, 0, none⟩)] w fun r w' => r = .returned (.int .i64 s.n) ∧ w = w' := by
  obtain ⟨v, rfl, hs⟩ := hs
  have hc3 : w.cell? ⟨p, 3, none⟩ = some (.int .i64 s.n) := hs.blk.cell 3
  clear hs
  go_enter Try.func86, Try.ntmps86
  go_wp2_with fail
  refine (nLoad_any p 3 s.n w hc3).mono ?_
  rintro r w1 ⟨rfl, rfl⟩
  go_wp2_with fail
  go_ret
  exact ⟨rfl, rfl⟩
end Go.Proofs.Ytjmehamkpmimkaa

namespace Go.Proofs.Ytjmehamkpmimkaa
open Go.RowKit

/-- A disk that bears the text T. -/
structure Good (a N : Nat) (T : List UInt8) (d : DSt) : Prop where
  sized : Sized a N d
  ws : d.ws = []
  home : hmOf a d.S = jArea a (sealed T)
  mark : ∃ x, x < 4294967296 ∧ sector d.S 0 = jMark 0 x
  left : d.left ≤ 9223372036854775807

theorem Stood.good {a N : Nat} {T : List UInt8} {s : DSt} {r : DSt × Int} (hz : Sized a N s) (h : Stood a N (jArea a (sealed T)) r) (hl : r.1.left ≤ 9223372036854775807) : Good a N T r.1 :=
  ⟨hz.to h.2.2.1, h.2.1, h.2.2.2.1, h.2.2.2.2, hl⟩

theorem format_good {a N : Nat} {T : List UInt8} {s : DSt} (hz : Sized a N s) (ht : T.length + 16 ≤ 64 * a) (hws : s.ws = []) (hl : s.left = -1) :
    (jFormat (sealed T) s).2 = 0 ∧ Good a N T (jFormat (sealed T) s).1 := by
  obtain ⟨h1, h2⟩ := format_stood (t := sealed T) hz (by rw [sealed_len]; omega) hws hl
  exact ⟨h1.1, h1.good hz (by rw [h2]; omega)⟩

/-- A disk behind a crash: an Open finds X or T. -/
structure Left (a N : Nat) (X T : List UInt8) (d : DSt) : Prop where
  sized : Sized a N d
  sound : Sound a N (jArea a (sealed X)) (jArea a (sealed T)) d

theorem save_crash {a N : Nat} {T t : List UInt8} {d : DSt} {s : SSt} (h : Good a N T d) (ht : t.length + 16 ≤ 64 * a) (hb : s.br = false) :
    ∃ X, (X = T ∨ X = t) ∧ ((sSave t s d).2.2 = 0 → X = t) ∧ ((sSave t s d).2.1.ws.length ≤ 70000 ∧ (sSave t s d).2.1.left ≤ 9223372036854775807) ∧ ∀ keep torn octets, Left a N X t ((sSave t s d).2.1.crash keep torn octets) := by
  have hst : ∀ l, (sealed l).length = l.length + 4 := sealed_len
  have hsv : (sSave t s d).2.1 = (jPut (sealed t) d).1 ∧ ((sSave t s d).2.2 = 0 → (jPut (sealed t) d).2 = 0) := by
    unfold sSave
    rw [if_neg (by rw [hb]; simp)]
    split
    · rename_i h; exact ⟨rfl, fun _ => h⟩
    · split
      · exact ⟨rfl, fun h => by simp at h⟩
      · exact ⟨rfl, fun h => by simp at h⟩
  have hg := (put_g (sealed t) d (dok_nil h.ws) (.inl (by rw [hst, ← h.sized.area]; omega)) (by have := h.sized.most; unfold jA; omega)).2
  rw [hsv.1]
  have hbd : (jPut (sealed t) d).1.ws.length ≤ 70000 ∧ (jPut (sealed t) d).1.left ≤ 9223372036854775807 := by
    obtain ⟨_, h2, h3⟩ := hg
    rw [h.ws] at h2
    exact ⟨by simpa using h2, Int.le_trans h3 h.left⟩
  have hcl : ∀ (s' : DSt), s'.S.length = N → Sized a N s' := fun s' hs => h.sized.to hs
  rcases put_crash2 (t := sealed t) h.sized (by rw [hst]; omega) h.ws h.home h.mark with ⟨X, hX, h0, hs⟩
  rcases hX with rfl | rfl
  · by_cases he : jArea a (sealed T) = jArea a (sealed t)
    · refine ⟨t, .inr rfl, fun _ => rfl, hbd, fun k q o => ⟨hcl _ (hs k q o).len, ?_⟩⟩
      rw [← he]; exact he ▸ hs k q o
    · exact ⟨T, .inl rfl, fun h1 => absurd (h0 (hsv.2 h1)) he, hbd, fun k q o => ⟨hcl _ (hs k q o).len, hs k q o⟩⟩
  · exact ⟨t, .inr rfl, fun _ => rfl, hbd, fun k q o => ⟨hcl _ (hs k q o).len, hs k q o⟩⟩

/-- An Open behind a crash is OK, and finds one of the two texts. -/
theorem open_left {a N : Nat} {X T : List UInt8} {d : DSt} (h : Left a N X T d) (hX : X.length + 16 ≤ 64 * a) (hT : T.length + 16 ≤ 64 * a) :
    ∃ Y, (Y = X ∨ Y = T) ∧ sOpen d = ((sOpen d).1, Y, 0) ∧ Good a N Y (sOpen d).1 ∧ (jGet (jRecover d).1).1 = sealed Y := by
  have hg := (recover_g d h.sound.dok (by have := h.sized.most; unfold jA; omega)).2
  have hl : (jRecover d).1.left ≤ 9223372036854775807 := by have := hg.2.2; rw [h.sound.left] at this; omega
  have key : ∀ Y : List UInt8, Y.length + 16 ≤ 64 * a → (Y = X ∨ Y = T) → Stood a N (jArea a (sealed Y)) (jRecover d) → ∃ Y, (Y = X ∨ Y = T) ∧ sOpen d = ((sOpen d).1, Y, 0) ∧ Good a N Y (sOpen d).1 ∧ (jGet (jRecover d).1).1 = sealed Y := by
    intro Y hY hXY hst
    have hgt := hst.get h.sized (by rw [sealed_len]; omega)
    have hr : jRecover d = ((jRecover d).1, 0) := by rw [← hst.1]
    have ho := sOpen_ok hr hgt
    rw [openM_sealed] at ho
    refine ⟨Y, hXY, ?_, ?_, by rw [hgt]⟩
    · rw [ho]
    · rw [ho]; exact hst.good h.sized hl
  rcases recover_ok h.sized (jArea_len (by rw [sealed_len]; omega)) h.sound with hs | hs
  · exact key X hX (.inl rfl) hs
  · exact key T hT (.inr rfl) hs
end Go.Proofs.Ytjmehamkpmimkaa
