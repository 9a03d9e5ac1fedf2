/- Contracts of journal: read, Get. -/
import Derived.Test.YtjmehamkpmimkaaJrnN
namespace Go.Proofs.Ytjmehamkpmimkaa
open Go.RowKit

theorem take_sector (I : List UInt8) (k j : Nat) : (I.drop (64 * k)).take (64 * j) ++ sector I (k + j) = (I.drop (64 * k)).take (64 * (j + 1)) := by
  unfold sector
  rw [show 64 * (j + 1) = 64 * j + 64 by omega, List.take_add, List.drop_drop, show 64 * (k + j) = 64 * k + 64 * j by omega]

set_option maxHeartbeats 3200000 in
set_option maxRecDepth 100000 in
theorem read_any (B g : Nat) (F : Nat → Prop) (s : DSt) (k m : Nat) (w : World) (kv mv : Int) (h : DskAt B w g F s) (hkv : kv = k) (hmv : mv = m) (hfit : 64 * (k + m) ≤ s.S.length) (hk : k ≤ 100000) (hm : m ≤ 100000) (hbig : s.ws.length ≤ 1000000) :
    Calls Try.prog 55 #[.pointer (some ⟨g, 0, none⟩), .int .i64 kv, .int .i64 mv] w fun r w' => ∃ A c, r = .returned (.slice A (64 * m) c) ∧ w'.ownsRow w.heap.size 5 1 (.slice A (64 * m) c) (64 * m) (((s.img.drop (64 * k)).take (64 * m)).map bv) ∧ Mod Nil w w' := by
  subst hkv hmv
  obtain ⟨i0, hi, hz0, hz1, hz2⟩ := info_parts u8_info
  have HD := Lib.hid h
  have himg := h.sized.2.2.2.img
  have HI := Lib.hid himg
  have HFIT := Lib.hid hfit
  clear h himg hfit
  go_enter Try.func55, Try.ntmps55
  go_wp2_with fail
  go_loopw [7, 12] (fun ov iv wr => ∃ (j : Nat), j ≤ m ∧ iv = .int .i64 j ∧ wr.ownsRow w.heap.size 5 1 ov (64 * j) (((s.img.drop (64 * k)).take (64 * j)).map bv) ∧ Mod Nil w wr) (fun _ v _ => m - (intOf v).toNat)
  case atStart => exact ⟨0, Nat.zero_le _, rfl, World.ownsRow_nil _ _ _ _, Mod.refl _ _⟩
  case round =>
    obtain ⟨j, hj, rfl, ho, hmod⟩ := hrel
    obtain ⟨A', c', rfl, _, _⟩ := own_slice ho
    have HO := Lib.hid ho
    have HM := Lib.hid hmod
    clear ho hmod
    by_cases hlt : j < m
    · have ht : s.there ((k + j : Nat) : Int) = true := by
        unfold DSt.there
        have := HFIT.out
        simp
        omega
      have HC := Lib.hid (dskRead_ok B g F s (k + j) wr (HD.out.keep0 HM.out) ht hbig)
      rw [Int.natCast_add] at HC
      clear ht
      go_wp2_with fail
      refine HC.out.mono ?_
      rintro r w2 ⟨v2, rfl, ho2, hm2⟩
      obtain ⟨A2, c2, rfl, _, _⟩ := own_slice ho2
      have HO2 := Lib.hid ho2
      have HM2 := Lib.hid hm2
      clear ho2 hm2
      have HSL := Lib.hid (sector_length (I := s.img) (n := k + j) (by have := HFIT.out; rw [HI.out]; omega))
      go_wp2_with (at_builtin; refine wpList_append1' _ rfl (.tmp 23) (.tmp 24) 36 rfl w.heap.size 5 i0 (.int .u8 0) 1 Try.underlying36 hi hz0 hz1 hz2 rfl (.slice A' (64 * j) c') (64 * j) (((s.img.drop (64 * k)).take (64 * j)).map bv) rfl (own_keep HO.out HM2.out (fun _ _ => id)) (fun j => wr.heap.size ≤ j) A2 64 c2 ((sector s.img (k + j)).map bv) rfl (by rw [List.length_map, HSL.out]) (Rd.of_own HO2.out) (bv_one _) (by omega) (by simp only [maxLen]; omega) (by have := HM.out.size; have := HM2.out.size; omega) ?_; intro A3 c3 w3 hown3 hmod3 hat3; rw [← List.map_append, take_sector] at hown3; have HO3 := Lib.hid (show w3.ownsRow w.heap.size 5 1 (.slice A3 (64 * j + 64) c3) (64 * (j + 1)) (((s.img.drop (64 * k)).take (64 * (j + 1))).map bv) from hown3); have HM3 := Lib.hid (show Mod Nil w w3 from (HM.out.trans HM2.out).trans' hmod3 (fun _ _ h => h) (fun q hq hqv => by have := (HO.out.lt q hqv).1; omega)); clear hown3 hmod3 hat3)
      go_roundw
      case rel => exact ⟨j + 1, by omega, by go_num, HO3.out, HM3.out⟩
      case measure => simp [intOf] <;> omega
    · obtain hjm : j = m := by omega
      have HO2 := Lib.hid (show wr.ownsRow w.heap.size 5 1 (.slice A' (64 * m) c') (64 * m) (((s.img.drop (64 * k)).take (64 * m)).map bv) from hjm ▸ HO.out)
      have HE := Lib.hid (show Value.slice A' (64 * j) c' = Value.slice A' (64 * m) c' by rw [hjm])
      clear hjm
      go_wp2_with fail
      go_ret
      refine ⟨A', c', ?_, HO2.out, HM.out⟩
      show Ending.returned (.slice A' (64 * j) c') = _
      rw [HE.out]

theorem room_cases {s : DSt} (h1 : 1 ≤ s.secs) (h2 : s.secs ≤ 65536) : (jRoom s.secs = -1 ∧ s.secs < 4) ∨ (jRoom s.secs = ((64 * jA s.secs - 12 : Nat) : Int) ∧ 4 ≤ s.secs ∧ 1 ≤ jA s.secs ∧ jA s.secs ≤ 32767 ∧ 1 + 2 * jA s.secs ≤ s.secs) := by
  by_cases h4 : 4 ≤ s.secs
  · exact .inr ⟨jRoom_of h4 h2, h4, by unfold jA; omega, by unfold jA; omega, by unfold jA; omega⟩
  · exact .inl ⟨by unfold jRoom; rw [if_neg (by omega), if_pos (by omega)], by omega⟩

set_option maxHeartbeats 3200000 in
set_option maxRecDepth 100000 in
theorem jget_any (B g : Nat) (F : Nat → Prop) (s : DSt) (w : World) (h : DskAt B w g F s) (hbig : s.ws.length ≤ 1000000) :
    Calls Try.prog 29 #[.pointer (some ⟨g, 0, none⟩)] w fun r w' => ∃ A n c, r = .returned (.tuple #[.slice A n c, .int .i64 (jGet s).2]) ∧ w'.ownsRow w.heap.size 5 1 (.slice A n c) n ((jGet s).1.map bv) ∧ Mod Nil w w' := by
  have HD := Lib.hid h
  obtain ⟨h1, h2, h3, hok⟩ := h.sized
  have HI := Lib.hid hok.img
  have HRM := Lib.hid (room_any B g F s w h)
  rcases room_cases h1 h2 with ⟨hr, h4⟩ | ⟨hr, h4, ha1, ha2, ha3⟩
  · have HG := Lib.hid (show jGet s = ([], 2) by unfold jGet; rw [if_pos (by rw [hr]; decide)])
    rw [hr] at HRM
    clear h hok h3 hr
    go_enter Try.func29, Try.ntmps29
    go_wp2_with fail
    refine HRM.out.mono ?_
    rintro r w1 ⟨rfl, rfl⟩
    go_wp2_with fail
    go_ret2
    rw [HG.out]
    exact ⟨none, 0, 0, rfl, World.ownsRow_nil _ _ _ _, Mod.refl _ _⟩
  · have HHO := Lib.hid (fun w' (hw' : Mod Nil w w') => homes_any B g F s w' (HD.out.keep0 hw'))
    have HSZ := Lib.hid (fun w' (hw' : Mod Nil w w') => dskSize_any B g F s w' (HD.out.keep0 hw'))
    have HAR := Lib.hid (fun w' => areas_any s.secs w' h1 h2)
    have hhm : s.home = 1 + jA s.secs := rfl
    rw [hhm] at HHO
    clear hhm
    obtain ⟨a, ha⟩ : ∃ a, a = jA s.secs := ⟨_, rfl⟩
    rw [← ha] at HHO HAR hr ha1 ha2 ha3
    obtain ⟨R, hR⟩ : ∃ R : Nat, R = 64 * a - 12 := ⟨_, rfl⟩
    rw [← hR] at hr
    have HRD := Lib.hid (fun w' (hw' : Mod Nil w w') => read_any B g F s (1 + a) a w' ((1 + a : Nat) : Int) (a : Int) (HD.out.keep0 hw') rfl rfl (by omega) (by omega) (by omega) hbig)
    have he : (s.img.drop (64 * (1 + a))).take (64 * a) = hmOf a s.img := by unfold hmOf; rw [show 64 * (1 + a) = 64 + 64 * a by omega]
    rw [he] at HRD
    obtain ⟨hm, hhm⟩ : ∃ hm, hm = hmOf a s.img := ⟨_, rfl⟩
    have hml : hm.length = 64 * a := by rw [hhm, hmOf, List.length_take, List.length_drop, HI.out]; omega
    have HG := Lib.hid (show jGet s = if (rNum (hm, 0)).2.2 = 0 ∧ ((rNum (hm, 0)).1 : Int) ≤ R then ((hm.drop 4).take (rNum (hm, 0)).1, 0) else ([], 11) by unfold jGet; rw [hr, if_neg (by omega), ← ha, ← hhm])
    rw [← hhm] at HRD
    rw [hr] at HRM
    have HRR := Lib.hid hR
    have hR1 : R ≤ 2097152 := by omega
    have HML := Lib.hid hml
    have hN := rNum_le (hm, 0)
    obtain ⟨N, hNe⟩ : ∃ N, N = (rNum (hm, 0)).1 := ⟨_, rfl⟩
    obtain ⟨st, hst⟩ : ∃ st, st = (rNum (hm, 0)).2 := ⟨_, rfl⟩
    rw [← hNe, ← hst] at HG
    rw [← hNe] at hN
    have HNE := Lib.hid hNe
    have HST := Lib.hid hst
    clear h hok h3 hr he ha hhm hml hR hNe hst
    rw [Int.natCast_add] at HHO HRD
    go_enter Try.func29, Try.ntmps29
    go_wp2_with fail
    refine HRM.out.mono ?_
    rintro r w1 ⟨rfl, rfl⟩
    go_wp2_with fail
    refine (HHO.out _ (Mod.refl _ _)).mono ?_
    rintro r w1 ⟨rfl, rfl⟩
    go_wp2_with fail
    refine (HSZ.out _ (Mod.refl _ _)).mono ?_
    rintro r w1 ⟨rfl, rfl⟩
    go_wp2_with fail
    refine (HAR.out _).mono ?_
    rintro r w1 ⟨rfl, rfl⟩
    go_wp2_with fail
    refine (HRD.out _ (Mod.refl _ _)).mono ?_
    rintro r w2 ⟨A2, c2, rfl, ho2, hm2⟩
    have HO2 := Lib.hid ho2
    have HM2 := Lib.hid hm2
    clear ho2 hm2
    go_wp2_with fail
    refine (ropen_any A2 (64 * a) c2 hm _ HML.out (by omega) ((Rd.of_own HO2.out).mono (fun _ _ _ => trivial))).mono ?_
    rintro r w3 ⟨S3, g3, rfl, hd3, hs3, hm3⟩
    have HD3 := Lib.hid hd3
    have HM3 := Lib.hid (HM2.out.trans hm3)
    have HS3 := Lib.hid (show w.heap.size ≤ g3 from Nat.le_trans HM2.out.size (hs3 g3 (.inr rfl)).1)
    clear hd3 hs3 hm3
    go_wp2_with fail
    refine (rnum_any S3 g3 (hm, 0) _ HD3.out).mono ?_
    rw [← HNE.out, ← HST.out]
    rintro r w4 ⟨rfl, hd4, hm4⟩
    have HD4 := Lib.hid hd4
    have HM4 := Lib.hid (show Mod Nil w w4 from HM3.out.trans' hm4 (fun _ _ h => h) (fun k hk hkg => by have := HS3.out; omega))
    clear hd4 hm4
    by_cases hst0 : st.2 = 0
    · by_cases hNR : N ≤ R
      · rw [if_pos ⟨hst0, by omega⟩] at HG
        have hRa : R + 12 = 64 * a := by have := HRR.out; omega
        have HST0 := Lib.hid hst0
        go_wp2_with fail
        refine (rerr_any S3 g3 st _ HD4.out).mono ?_
        rintro r w5 ⟨rfl, rfl⟩
        rw [HST0.out]
        clear hst0
        go_wp2_with fail
        refine (HHO.out _ HM4.out).mono ?_
        rintro r w5 ⟨rfl, rfl⟩
        go_wp2_with fail
        refine (HSZ.out _ HM4.out).mono ?_
        rintro r w5 ⟨rfl, rfl⟩
        go_wp2_with fail
        refine (HAR.out _).mono ?_
        rintro r w5 ⟨rfl, rfl⟩
        go_wp2_with fail
        refine (HRD.out _ HM4.out).mono ?_
        rintro r w6 ⟨A6, c6, rfl, ho6, hm6⟩
        obtain ⟨g6, c7, hv, hb6, hlt6⟩ := ho6.form (by omega)
        obtain ⟨_, hc6, hc6b⟩ : True ∧ 64 * a ≤ c6 ∧ c6 ≤ maxLen := by
          obtain ⟨A', c', hv', h1', h2'⟩ := own_slice ho6
          injection hv' with _ _ e3
          subst e3
          exact ⟨trivial, h1', h2'⟩
        injection hv with e1 _ _
        subst e1
        unfold maxLen at hc6b
        have HO6 := Lib.hid ho6
        have HM6 := Lib.hid hm6
        have hne4 : ¬ c6 = 4 := by omega
        clear ho6 hm6
        go_wp2_with fail
        have hcl : ((hm.drop 4).take N).length = N := by rw [List.length_take, List.length_drop, HML.out]; omega
        have hrc : Rd (fun b => w4.heap.size ≤ b) w6 (some ⟨g6, 4, none⟩) (((hm.drop 4).take N).map bv) := by
          have := ((Rd.of_own HO6.out).drop (ad := ⟨g6, 0, none⟩) 4).take N
          rw [← List.map_drop, ← List.map_take] at this
          exact this
        refine (clone_any _ (some ⟨g6, 4, none⟩) N (c7 - 4) ((hm.drop 4).take N) _ hcl (by omega) hrc).mono ?_
        rintro r w8 ⟨v8, rfl, ho8, hm8⟩
        obtain ⟨A8, c8, rfl, _, _⟩ := own_slice ho8
        have HO8 := Lib.hid ho8
        have HM8 := Lib.hid ((HM4.out.trans HM6.out).trans hm8)
        have HZ := Lib.hid (HM4.out.trans HM6.out).size
        clear ho8 hm8 hrc hcl
        go_wp2_with fail
        go_ret2
        rw [HG.out]
        exact ⟨A8, N, c8, rfl, own_base HO8.out HZ.out, HM8.out⟩
      · rw [if_neg (fun hx => hNR (by omega))] at HG
        have HST0 := Lib.hid hst0
        go_wp2_with fail
        refine (rerr_any S3 g3 st _ HD4.out).mono ?_
        rintro r w5 ⟨rfl, rfl⟩
        rw [HST0.out]
        clear hst0
        go_wp2_with fail
        go_ret2
        rw [HG.out]
        exact ⟨none, 0, 0, rfl, World.ownsRow_nil _ _ _ _, HM4.out⟩
    · rw [if_neg (fun hx => hst0 hx.1)] at HG
      have hb0 : (st.2 != 0) = true := by simp [hst0]
      have HSN := Lib.hid hst0
      clear hst0
      go_wp2_with fail
      refine (rerr_any S3 g3 st _ HD4.out).mono ?_
      rintro r w5 ⟨rfl, rfl⟩
      go_wp2_with fail
      go_ret2
      rw [HG.out]
      exact ⟨none, 0, 0, rfl, World.ownsRow_nil _ _ _ _, HM4.out⟩

end Go.Proofs.Ytjmehamkpmimkaa
