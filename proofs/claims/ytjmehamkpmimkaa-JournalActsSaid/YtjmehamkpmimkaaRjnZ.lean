/- Contracts of the document's journal: Recover. -/
import Derived.Test.YtjmehamkpmimkaaRjnY
namespace Go.Proofs.Ytjmehamkpmimkaa
open Go.RowKit

theorem sync_keeps {s : DSt} (hz : Szd s) : Szd (DSt.sync s).1 ∧ (DSt.sync s).1.secs = s.secs ∧ (DSt.sync s).1.ws.length ≤ s.ws.length ∧ (DSt.sync s).1.left ≤ s.left := by
  obtain ⟨g1, g2⟩ := sync_g s hz.2.2.2
  exact ⟨hz.to g2.1 g1, by unfold DSt.secs; rw [g2.1], by have := g2.2.1; omega, g2.2.2⟩

set_option maxHeartbeats 3200000 in
set_option maxRecDepth 100000 in
theorem rrecover_any (B g : Nat) (F : Nat → Prop) (s : DSt) (w : World) (h : RdkAt B w g F s) (hB : B ≤ w.heap.size) (hz : Szd s) (hbig : s.ws.length ≤ 500000) (hl : s.left ≤ 9223372036854775807) :
    Calls Try.prog 19 #[.pointer (some ⟨g, 0, none⟩)] w (RdkPost B w g F (jRecover s).1 (.returned (.int .i64 (jRecover s).2))) := by
  have HD := Lib.hid h
  have hc0 := h.cell0
  have hs := str_size s.S
  obtain ⟨h1, h2, h3, hok⟩ := hz
  have HZ := Lib.hid (show Szd s from ⟨h1, h2, h3, hok⟩)
  have hil := hok.img
  have his := str_size s.img
  rw [hil] at his
  obtain ⟨M, hM⟩ : ∃ M, M = s.secs := ⟨_, rfl⟩
  obtain ⟨N, hN⟩ : ∃ N, N = s.S.length := ⟨_, rfl⟩
  have HR := Lib.hid (fun w => refRoom4_any (M : Int) w)
  rw [← hM] at h1 h2 h3
  rw [← hN] at hs h3 his
  have ht1 : Int.tdiv (N : Int) 64 = (M : Int) := by rw [Int.tdiv_eq_ediv_of_nonneg (by omega)]; omega
  have hN9 : N ≤ 4194304 := by omega
  rcases room_cases (s := s) (by omega) (by omega) with ⟨hr, h4⟩ | ⟨hr, h4, ha1, ha2, ha3⟩
  · have HG := Lib.hid (show jRecover s = (s, 2) by unfold jRecover; rw [if_pos (by rw [hr]; decide)])
    rw [hM, hr, ← hM] at HR
    clear h hok h3 hr hM hN hil his h4 h1
    go_enter Try.func19, Try.ntmps19
    go_wp2_with fail
    refine (HR.out _).mono ?_
    rintro r w1 ⟨rfl, rfl⟩
    go_wp2_with fail
    go_ret
    rw [HG.out]
    exact ⟨rfl, F, HD.out, Mod.refl _ _, fun _ h => .inl h⟩
  · have HA := Lib.hid (fun w' (hm : Mod Nil w w') => rarea_any B g F s w' (HD.out.keep0 hm) HZ.out)
    have HIM := Lib.hid (rdkImage_any B g F s w h (by omega))
    obtain ⟨a, ha⟩ : ∃ a, a = jA s.secs := ⟨_, rfl⟩
    have hRn : ¬ jRoom s.secs < 0 := by rw [hr]; omega
    rw [← ha] at HA hr ha1 ha2 ha3
    obtain ⟨R, hR⟩ : ∃ R : Nat, R = 64 * a - 12 := ⟨_, rfl⟩
    rw [← hR] at hr
    rw [hM, hr] at HR
    obtain ⟨I, hI⟩ : ∃ I, I = s.img := ⟨_, rfl⟩
    obtain ⟨b, hb⟩ : ∃ b, b = jnOf a I := ⟨_, rfl⟩
    obtain ⟨O, hO⟩ : ∃ O, O = sector I 0 := ⟨_, rfl⟩
    rw [← hI] at HIM his hil
    have hbl : b.length = 64 * a := by rw [hb, jnOf, List.length_take, List.length_drop, hil]; omega
    have hOl : O.length = 64 := by rw [hO]; exact sector_length (by rw [hil]; omega)
    obtain ⟨E, hE⟩ : ∃ E, E = 64 + 64 * a := ⟨_, rfl⟩
    have hx1 : (str I).extract 64 E = str b := by rw [str_cut, hb, hE, show 64 + 64 * a - 64 = 64 * a by omega]; rfl
    have hx0 : (str I).extract 0 64 = str O := by rw [str_cut, hO]; rfl
    have hOs : (str O).size = 64 := by rw [str_size, hOl]
    have hbs : (str b).size = 64 * a := by rw [str_size, hbl]
    have hE1 : 64 + 64 * (a : Int) = (E : Int) := by omega
    have hE2 : IntKind.i64.wrap (64 * (a : Int)) = 64 * (a : Int) := IntWalk.i64_in _ (by omega)
    have hEN : E ≤ N := by omega
    have hE64 : 64 ≤ E := by omega
    have hx := crcSum_lt b
    obtain ⟨x, hxe⟩ : ∃ x, x = crcSum b := ⟨_, rfl⟩
    have hx : x < 4294967296 := by rw [hxe]; simpa using hx
    have HXE := Lib.hid (show crcSum b = x from hxe.symm)
    have HSUM := Lib.hid (fun w => refSum_any (str b) w (by rw [hbs]; simp only [maxLen]; omega))
    rw [str_list, ← hxe] at HSUM
    obtain ⟨H, hHe⟩ : ∃ H, H = s.home := ⟨_, rfl⟩
    have HG := Lib.hid (show jRecover s = if O = jMark 1 x then jRun [DSt.sync, jLay (1 + a) b, DSt.sync, jLay 0 (jMark 0 x), DSt.sync] s else if O = jMark 0 (saidOf O) then (s, 0) else jRun [jLay 0 (jMark 0 0), DSt.sync] s by unfold jRecover; rw [if_neg hRn, ← ha, ← hI, ← hb, ← hO, ← hxe, show s.home = 1 + a by unfold DSt.home; rw [← ha]])
    have HBL := Lib.hid hbl
    have HSA := Lib.hid (show jA s.secs = a from ha.symm)
    have HEE := Lib.hid hE
    have HHD := Lib.hid (fun w => rhead_any 1 1 x w rfl (by omega) hx)
    rw [← hM] at HR
    clear h hok hr hRn ha hb hO hbl hOl hR hxe hHe hM hN hI hil h1 h3 hE
    by_cases hq : O = jMark 1 x
    · rw [if_pos hq] at HG
      have hb1 : ((str O).toList == (str (jMark 1 x)).toList) = true := by rw [hq]; simp
      clear hq
      have HSY := Lib.hid (fun w' (hm : Mod Nil w w') => (show Calls Try.prog 65 #[.pointer (some ⟨g, 0, none⟩)] w' (RdkPost B w' g F (DSt.sync s).1 (.returned (.int .i64 (DSt.sync s).2))) from rdkSync_any B g F s w' (HD.out.keep0 hm) (Nat.le_trans hB hm.size) (by omega) (by omega)))
      obtain ⟨k1, k2, k3, k4⟩ := sync_keeps HZ.out
      rw [jRun] at HG
      by_cases he : (DSt.sync s).2 = 0
      · rw [if_pos he] at HG
        rw [he] at HSY
        obtain ⟨s1, hs1⟩ : ∃ s1, s1 = (DSt.sync s).1 := ⟨_, rfl⟩
        rw [← hs1] at HSY HG k1 k2 k3 k4
        have HZ1 := Lib.hid k1
        have HA1 := Lib.hid (show a = jA s1.secs by rw [k2, HSA.out])
        have HOM := Lib.hid (fun F1 w' (hd : RdkAt B w' g F1 s1) (hw : B ≤ w'.heap.size) => rhome_any B g F1 s1 a b w' hd hw HZ1.out HA1.out HBL.out (by omega) (by omega))
        rw [HXE.out] at HOM
        clear he hs1 k1 k2
        go_enter Try.func19, Try.ntmps19
        go_wp2_with fail
        refine (HR.out _).mono ?_
        rintro r w1 ⟨rfl, rfl⟩
        go_wp2_with fail
        refine HIM.out.mono ?_
        rintro r w1 ⟨rfl, hm1⟩
        have HM1 := Lib.hid hm1
        clear hm1
        go_wp2_with fail
        refine (HA.out _ HM1.out).mono ?_
        rintro r w2 ⟨rfl, rfl⟩
        go_wp2_with fail
        refine (HSUM.out _).mono ?_
        rintro r w2 ⟨rfl, rfl⟩
        go_wp2_with fail
        refine (HHD.out _).mono ?_
        rintro r w2 ⟨rfl, hm2⟩
        have HM2 := Lib.hid (HM1.out.trans hm2)
        clear hm2
        go_wp2_with fail
        refine (HSY.out _ HM2.out).mono ?_
        intro r w3 h3
        obtain ⟨rfl, F1, hd1, hm1, hF1⟩ := h3.from_ HM2.out
        have HD1 := Lib.hid hd1
        have HM3 := Lib.hid hm1
        have HF1 := Lib.hid hF1
        clear hd1 hm1 hF1 h3
        go_wp2_with fail
        refine (HOM.out F1 _ HD1.out (Nat.le_trans hB HM3.out.size)).mono ?_
        intro r w5 h5
        have HP := Lib.hid (h5.then_ HM3.out HF1.out)
        obtain ⟨rfl, _⟩ := h5
        go_wp2_with fail
        go_ret
        rw [HG.out]
        exact HP.out
      · rw [if_neg he] at HG
        have he0 : ((DSt.sync s).2 != 0) = true := by simp [he]
        have HEN := Lib.hid he
        clear he k1 k2
        go_enter Try.func19, Try.ntmps19
        go_wp2_with fail
        refine (HR.out _).mono ?_
        rintro r w1 ⟨rfl, rfl⟩
        go_wp2_with fail
        refine HIM.out.mono ?_
        rintro r w1 ⟨rfl, hm1⟩
        have HM1 := Lib.hid hm1
        clear hm1
        go_wp2_with fail
        refine (HA.out _ HM1.out).mono ?_
        rintro r w2 ⟨rfl, rfl⟩
        go_wp2_with fail
        refine (HSUM.out _).mono ?_
        rintro r w2 ⟨rfl, rfl⟩
        go_wp2_with fail
        refine (HHD.out _).mono ?_
        rintro r w2 ⟨rfl, hm2⟩
        have HM2 := Lib.hid (HM1.out.trans hm2)
        clear hm2
        go_wp2_with fail
        refine (HSY.out _ HM2.out).mono ?_
        intro r w3 h3
        have HP := Lib.hid (h3.from_ HM2.out)
        obtain ⟨rfl, _⟩ := h3
        go_wp2_with fail
        go_ret
        rw [HG.out]
        exact HP.out
    · rw [if_neg hq] at HG
      have hb1 : ((str O).toList == (str (jMark 1 x)).toList) = false := by
        rw [ByteArray.toList_eq, ByteArray.toList_eq, str_list, str_list]; exact beq_eq_false_iff_ne.2 hq
      have HQ := Lib.hid hq
      clear hq
      have hOl : O.length = 64 := by rw [← str_size]; exact hOs
      obtain ⟨u0, u1, u2, u3, hu0, hu1, hu2, hu3⟩ : ∃ u0 u1 u2 u3, O[8]? = some u0 ∧ O[9]? = some u1 ∧ O[10]? = some u2 ∧ O[11]? = some u3 := ⟨_, _, _, _, List.getElem?_eq_getElem (by omega), List.getElem?_eq_getElem (by omega), List.getElem?_eq_getElem (by omega), List.getElem?_eq_getElem (by omega)⟩
      have q0 : ∀ h, (str O)[8]'h = u0 := fun h => by have := hu0; rw [List.getElem?_eq_getElem (by omega)] at this; exact Option.some.inj this
      have q1 : ∀ h, (str O)[9]'h = u1 := fun h => by have := hu1; rw [List.getElem?_eq_getElem (by omega)] at this; exact Option.some.inj this
      have q2 : ∀ h, (str O)[10]'h = u2 := fun h => by have := hu2; rw [List.getElem?_eq_getElem (by omega)] at this; exact Option.some.inj this
      have q3 : ∀ h, (str O)[11]'h = u3 := fun h => by have := hu3; rw [List.getElem?_eq_getElem (by omega)] at this; exact Option.some.inj this
      obtain ⟨y, hy⟩ : ∃ y, y = u0.toNat + 256 * u1.toNat + 65536 * u2.toNat + 16777216 * u3.toNat := ⟨_, rfl⟩
      have b0 := u0.toNat_lt
      have b1 := u1.toNat_lt
      have b2 := u2.toNat_lt
      have b3 := u3.toNat_lt
      have hyl : y < 4294967296 := by omega
      rw [said_of hu0 hu1 hu2 hu3, ← hy] at HG
      have HY := Lib.hid hy
      clear hu0 hu1 hu2 hu3 hy hOl
      go_enter Try.func19, Try.ntmps19
      go_wp2_with fail
      refine (HR.out _).mono ?_
      rintro r w1 ⟨rfl, rfl⟩
      go_wp2_with fail
      refine HIM.out.mono ?_
      rintro r w1 ⟨rfl, hm1⟩
      have HM1 := Lib.hid hm1
      clear hm1
      go_wp2_with fail
      refine (HA.out _ HM1.out).mono ?_
      rintro r w2 ⟨rfl, rfl⟩
      go_wp2_with fail
      refine (HSUM.out _).mono ?_
      rintro r w2 ⟨rfl, rfl⟩
      go_wp2_with fail
      refine (HHD.out _).mono ?_
      rintro r w2 ⟨rfl, hm2⟩
      have HM2 := Lib.hid (HM1.out.trans hm2)
      clear hm2
      go_wp2_with (go_quiet (fail))
      have HM3 := Lib.hid (HM2.out.drewN nq)
      have hyi : (u0.toNat : Int) + 256 * (u1.toNat : Int) + 65536 * (u2.toNat : Int) + 16777216 * (u3.toNat : Int) = (y : Int) := by have := HY.out; omega
      refine (rhead_any' 0 _ 0 y _ rfl hyi (by omega) hyl).mono ?_
      rintro r w4 ⟨rfl, hm4⟩
      have HM4 := Lib.hid (HM3.out.trans hm4)
      clear hm4 hyi q0 q1 q2 q3 b0 b1 b2 b3
      by_cases hp : O = jMark 0 y
      · rw [if_pos hp] at HG
        have hb2 : ((str O).toList == (str (jMark 0 y)).toList) = true := by rw [hp]; simp
        clear hp
        go_wp2_with fail
        go_ret
        rw [HG.out]
        exact ⟨rfl, F, HD.out.keep0 HM4.out, HM4.out.any, fun _ h => .inl h⟩
      · rw [if_neg hp] at HG
        have hb2 : ((str O).toList == (str (jMark 0 y)).toList) = false := by
          rw [ByteArray.toList_eq, ByteArray.toList_eq, str_list, str_list]; exact beq_eq_false_iff_ne.2 hp
        have HP := Lib.hid hp
        clear hp
        go_wp2_with fail
        refine (rhead_any' 0 0 0 0 _ rfl rfl (by omega) (by omega)).mono ?_
        rintro r w5 ⟨rfl, hm5⟩
        have HM5 := Lib.hid (HM4.out.trans hm5)
        clear hm5
        go_wp2_with fail
        refine (rboth_any B g F s 1 0 0 (jMark 0 0) _ (HD.out.keep0 HM5.out) (Nat.le_trans hB HM5.out.size) HZ.out rfl (jMark_len 0 0) (by omega) (by omega) (by omega) hl).mono ?_
        intro r w6 h6
        have HQ2 := Lib.hid (h6.from_ HM5.out)
        obtain ⟨rfl, _⟩ := h6
        go_wp2_with fail
        go_ret
        rw [HG.out]
        exact HQ2.out

end Go.Proofs.Ytjmehamkpmimkaa
