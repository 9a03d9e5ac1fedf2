/- Parts of the proof of StoreActs, joined: RjnZ RrdX RjnV RstW Act4 JrnActsP StaP Sta0. -/
import Derived.Test.YtjmehamkpmimkaaStoreActsj7
namespace Go.Proofs.Ytjmehamkpmimkaa
open Go.RowKit

theorem sync_keeps {s : DSt} (hz : Szd s) : Szd (DSt.sync s).1 ∧ (DSt.sync s).1.secs = s.secs ∧ (DSt.sync s).1.ws.length ≤ s.ws.length ∧ (DSt.sync s).1.left ≤ s.left := by
  obtain ⟨g1, g2⟩ := sync_g s hz.2.2.2
  exact ⟨hz.to g2.1 g1, by unfold DSt.secs; rw [g2.1], by have := g2.2.1; omega, g2.2.2⟩

set_option maxHeartbeats 3200000 in
set_option maxRecDepth 100000 in
theorem rrecover_any (B g : Nat) (F : Nat → Prop) (s : DSt) (w : World) (h : RdkAt B w g F s) (hB : B ≤ w.heap.size) (hz : Szd s) (hbig : s.ws.length ≤ 500000) (hl : s.left ≤ 9223372036854775807) :
    Calls Try.prog 19 #[.pointer (some ⟨g, 0, none⟩)] w (RdkPost B w g F (jRecover s).1 (.returned (.int .i64 (jRecover s).2))) := by
  have HD := Lib.hid h
  have hc0 := h.cell0
  have hs := str_size s.S
  obtain ⟨h1, h2, h3, hok⟩ := hz
  have HZ := Lib.hid (show Szd s from ⟨h1, h2, h3, hok⟩)
  have hil := hok.img
  have his := str_size s.img
  rw [hil] at his
  obtain ⟨M, hM⟩ : ∃ M, M = s.secs := ⟨_, rfl⟩
  obtain ⟨N, hN⟩ : ∃ N, N = s.S.length := ⟨_, rfl⟩
  have HR := Lib.hid (fun w => refRoom4_any (M : Int) w)
  rw [← hM] at h1 h2 h3
  rw [← hN] at hs h3 his
  have ht1 : Int.tdiv (N : Int) 64 = (M : Int) := by rw [Int.tdiv_eq_ediv_of_nonneg (by omega)]; omega
  have hN9 : N ≤ 4194304 := by omega
  rcases room_cases (s := s) (by omega) (by omega) with ⟨hr, h4⟩ | ⟨hr, h4, ha1, ha2, ha3⟩
  · have HG := Lib.hid (show jRecover s = (s, 2) by unfold jRecover; rw [if_pos (by rw [hr]; decide)])
    rw [hM, hr, ← hM] at HR
    clear h hok h3 hr hM hN hil his h4 h1
    go_enter Try.func19, Try.ntmps19
    go_wp2_with fail
    refine (HR.out _).mono ?_
    rintro r w1 ⟨rfl, rfl⟩
    go_wp2_with fail
    go_ret
    rw [HG.out]
    exact ⟨rfl, F, HD.out, Mod.refl _ _, fun _ h => .inl h⟩
  · have HA := Lib.hid (fun w' (hm : Mod Nil w w') => rarea_any B g F s w' (HD.out.keep0 hm) HZ.out)
    have HIM := Lib.hid (rdkImage_any B g F s w h (by omega))
    obtain ⟨a, ha⟩ : ∃ a, a = jA s.secs := ⟨_, rfl⟩
    have hRn : ¬ jRoom s.secs < 0 := by rw [hr]; omega
    rw [← ha] at HA hr ha1 ha2 ha3
    obtain ⟨R, hR⟩ : ∃ R : Nat, R = 64 * a - 12 := ⟨_, rfl⟩
    rw [← hR] at hr
    rw [hM, hr] at HR
    obtain ⟨I, hI⟩ : ∃ I, I = s.img := ⟨_, rfl⟩
    obtain ⟨b, hb⟩ : ∃ b, b = jnOf a I := ⟨_, rfl⟩
    obtain ⟨O, hO⟩ : ∃ O, O = sector I 0 := ⟨_, rfl⟩
    rw [← hI] at HIM his hil
    have hbl : b.length = 64 * a := by rw [hb, jnOf, List.length_take, List.length_drop, hil]; omega
    have hOl : O.length = 64 := by rw [hO]; exact sector_length (by rw [hil]; omega)
    obtain ⟨E, hE⟩ : ∃ E, E = 64 + 64 * a := ⟨_, rfl⟩
    have hx1 : (str I).extract 64 E = str b := by rw [str_cut, hb, hE, show 64 + 64 * a - 64 = 64 * a by omega]; rfl
    have hx0 : (str I).extract 0 64 = str O := by rw [str_cut, hO]; rfl
    have hOs : (str O).size = 64 := by rw [str_size, hOl]
    have hbs : (str b).size = 64 * a := by rw [str_size, hbl]
    have hE1 : 64 + 64 * (a : Int) = (E : Int) := by omega
    have hE2 : IntKind.i64.wrap (64 * (a : Int)) = 64 * (a : Int) := IntWalk.i64_in _ (by omega)
    have hEN : E ≤ N := by omega
    have hE64 : 64 ≤ E := by omega
    have hx := crcSum_lt b
    obtain ⟨x, hxe⟩ : ∃ x, x = crcSum b := ⟨_, rfl⟩
    have hx : x < 4294967296 := by rw [hxe]; simpa using hx
    have HXE := Lib.hid (show crcSum b = x from hxe.symm)
    have HSUM := Lib.hid (fun w => refSum_any (str b) w (by rw [hbs]; simp only [maxLen]; omega))
    rw [str_list, ← hxe] at HSUM
    obtain ⟨H, hHe⟩ : ∃ H, H = s.home := ⟨_, rfl⟩
    have HG := Lib.hid (show jRecover s = if O = jMark 1 x then jRun [DSt.sync, jLay (1 + a) b, DSt.sync, jLay 0 (jMark 0 x), DSt.sync] s else if O = jMark 0 (saidOf O) then (s, 0) else jRun [jLay 0 (jMark 0 0), DSt.sync] s by unfold jRecover; rw [if_neg hRn, ← ha, ← hI, ← hb, ← hO, ← hxe, show s.home = 1 + a by unfold DSt.home; rw [← ha]])
    have HBL := Lib.hid hbl
    have HSA := Lib.hid (show jA s.secs = a from ha.symm)
    have HEE := Lib.hid hE
    have HHD := Lib.hid (fun w => rhead_any 1 1 x w rfl (by omega) hx)
    rw [← hM] at HR
    clear h hok hr hRn ha hb hO hbl hOl hR hxe hHe hM hN hI hil h1 h3 hE
    by_cases hq : O = jMark 1 x
    · rw [if_pos hq] at HG
      have hb1 : ((str O).toList == (str (jMark 1 x)).toList) = true := by rw [hq]; simp
      clear hq
      have HSY := Lib.hid (fun w' (hm : Mod Nil w w') => (show Calls Try.prog 65 #[.pointer (some ⟨g, 0, none⟩)] w' (RdkPost B w' g F (DSt.sync s).1 (.returned (.int .i64 (DSt.sync s).2))) from rdkSync_any B g F s w' (HD.out.keep0 hm) (Nat.le_trans hB hm.size) (by omega) (by omega)))
      obtain ⟨k1, k2, k3, k4⟩ := sync_keeps HZ.out
      rw [jRun] at HG
      by_cases he : (DSt.sync s).2 = 0
      · rw [if_pos he] at HG
        rw [he] at HSY
        obtain ⟨s1, hs1⟩ : ∃ s1, s1 = (DSt.sync s).1 := ⟨_, rfl⟩
        rw [← hs1] at HSY HG k1 k2 k3 k4
        have HZ1 := Lib.hid k1
        have HA1 := Lib.hid (show a = jA s1.secs by rw [k2, HSA.out])
        have HOM := Lib.hid (fun F1 w' (hd : RdkAt B w' g F1 s1) (hw : B ≤ w'.heap.size) => rhome_any B g F1 s1 a b w' hd hw HZ1.out HA1.out HBL.out (by omega) (by omega))
        rw [HXE.out] at HOM
        clear he hs1 k1 k2
        go_enter Try.func19, Try.ntmps19
        go_wp2_with fail
        refine (HR.out _).mono ?_
        rintro r w1 ⟨rfl, rfl⟩
        go_wp2_with fail
        refine HIM.out.mono ?_
        rintro r w1 ⟨rfl, hm1⟩
        have HM1 := Lib.hid hm1
        clear hm1
        go_wp2_with fail
        refine (HA.out _ HM1.out).mono ?_
        rintro r w2 ⟨rfl, rfl⟩
        go_wp2_with fail
        refine (HSUM.out _).mono ?_
        rintro r w2 ⟨rfl, rfl⟩
        go_wp2_with fail
        refine (HHD.out _).mono ?_
        rintro r w2 ⟨rfl, hm2⟩
        have HM2 := Lib.hid (HM1.out.trans hm2)
        clear hm2
        go_wp2_with fail
        refine (HSY.out _ HM2.out).mono ?_
        intro r w3 h3
        obtain ⟨rfl, F1, hd1, hm1, hF1⟩ := h3.from_ HM2.out
        have HD1 := Lib.hid hd1
        have HM3 := Lib.hid hm1
        have HF1 := Lib.hid hF1
        clear hd1 hm1 hF1 h3
        go_wp2_with fail
        refine (HOM.out F1 _ HD1.out (Nat.le_trans hB HM3.out.size)).mono ?_
        intro r w5 h5
        have HP := Lib.hid (h5.then_ HM3.out HF1.out)
        obtain ⟨rfl, _⟩ := h5
        go_wp2_with fail
        go_ret
        rw [HG.out]
        exact HP.out
      · rw [if_neg he] at HG
        have he0 : ((DSt.sync s).2 != 0) = true := by simp [he]
        have HEN := Lib.hid he
        clear he k1 k2
        go_enter Try.func19, Try.ntmps19
        go_wp2_with fail
        refine (HR.out _).mono ?_
        rintro r w1 ⟨rfl, rfl⟩
        go_wp2_with fail
        refine HIM.out.mono ?_
        rintro r w1 ⟨rfl, hm1⟩
        have HM1 := Lib.hid hm1
        clear hm1
        go_wp2_with fail
        refine (HA.out _ HM1.out).mono ?_
        rintro r w2 ⟨rfl, rfl⟩
        go_wp2_with fail
        refine (HSUM.out _).mono ?_
        rintro r w2 ⟨rfl, rfl⟩
        go_wp2_with fail
        refine (HHD.out _).mono ?_
        rintro r w2 ⟨rfl, hm2⟩
        have HM2 := Lib.hid (HM1.out.trans hm2)
        clear hm2
        go_wp2_with fail
        refine (HSY.out _ HM2.out).mono ?_
        intro r w3 h3
        have HP := Lib.hid (h3.from_ HM2.out)
        obtain ⟨rfl, _⟩ := h3
        go_wp2_with fail
        go_ret
        rw [HG.out]
        exact HP.out
    · rw [if_neg hq] at HG
      have hb1 : ((str O).toList == (str (jMark 1 x)).toList) = false := by
        rw [ByteArray.toList_eq, ByteArray.toList_eq, str_list, str_list]; exact beq_eq_false_iff_ne.2 hq
      have HQ := Lib.hid hq
      clear hq
      have hOl : O.length = 64 := by rw [← str_size]; exact hOs
      obtain ⟨u0, u1, u2, u3, hu0, hu1, hu2, hu3⟩ : ∃ u0 u1 u2 u3, O[8]? = some u0 ∧ O[9]? = some u1 ∧ O[10]? = some u2 ∧ O[11]? = some u3 := ⟨_, _, _, _, List.getElem?_eq_getElem (by omega), List.getElem?_eq_getElem (by omega), List.getElem?_eq_getElem (by omega), List.getElem?_eq_getElem (by omega)⟩
      have q0 : ∀ h, (str O)[8]'h = u0 := fun h => by have := hu0; rw [List.getElem?_eq_getElem (by omega)] at this; exact Option.some.inj this
      have q1 : ∀ h, (str O)[9]'h = u1 := fun h => by have := hu1; rw [List.getElem?_eq_getElem (by omega)] at this; exact Option.some.inj this
      have q2 : ∀ h, (str O)[10]'h = u2 := fun h => by have := hu2; rw [List.getElem?_eq_getElem (by omega)] at this; exact Option.some.inj this
      have q3 : ∀ h, (str O)[11]'h = u3 := fun h => by have := hu3; rw [List.getElem?_eq_getElem (by omega)] at this; exact Option.some.inj this
      obtain ⟨y, hy⟩ : ∃ y, y = u0.toNat + 256 * u1.toNat + 65536 * u2.toNat + 16777216 * u3.toNat := ⟨_, rfl⟩
      have b0 := u0.toNat_lt
      have b1 := u1.toNat_lt
      have b2 := u2.toNat_lt
      have b3 := u3.toNat_lt
      have hyl : y < 4294967296 := by omega
      rw [said_of hu0 hu1 hu2 hu3, ← hy] at HG
      have HY := Lib.hid hy
      clear hu0 hu1 hu2 hu3 hy hOl
      go_enter Try.func19, Try.ntmps19
      go_wp2_with fail
      refine (HR.out _).mono ?_
      rintro r w1 ⟨rfl, rfl⟩
      go_wp2_with fail
      refine HIM.out.mono ?_
      rintro r w1 ⟨rfl, hm1⟩
      have HM1 := Lib.hid hm1
      clear hm1
      go_wp2_with fail
      refine (HA.out _ HM1.out).mono ?_
      rintro r w2 ⟨rfl, rfl⟩
      go_wp2_with fail
      refine (HSUM.out _).mono ?_
      rintro r w2 ⟨rfl, rfl⟩
      go_wp2_with fail
      refine (HHD.out _).mono ?_
      rintro r w2 ⟨rfl, hm2⟩
      have HM2 := Lib.hid (HM1.out.trans hm2)
      clear hm2
      go_wp2_with (go_quiet (fail))
      have HM3 := Lib.hid (HM2.out.drewN nq)
      have hyi : (u0.toNat : Int) + 256 * (u1.toNat : Int) + 65536 * (u2.toNat : Int) + 16777216 * (u3.toNat : Int) = (y : Int) := by have := HY.out; omega
      refine (rhead_any' 0 _ 0 y _ rfl hyi (by omega) hyl).mono ?_
      rintro r w4 ⟨rfl, hm4⟩
      have HM4 := Lib.hid (HM3.out.trans hm4)
      clear hm4 hyi q0 q1 q2 q3 b0 b1 b2 b3
      by_cases hp : O = jMark 0 y
      · rw [if_pos hp] at HG
        have hb2 : ((str O).toList == (str (jMark 0 y)).toList) = true := by rw [hp]; simp
        clear hp
        go_wp2_with fail
        go_ret
        rw [HG.out]
        exact ⟨rfl, F, HD.out.keep0 HM4.out, HM4.out.any, fun _ h => .inl h⟩
      · rw [if_neg hp] at HG
        have hb2 : ((str O).toList == (str (jMark 0 y)).toList) = false := by
          rw [ByteArray.toList_eq, ByteArray.toList_eq, str_list, str_list]; exact beq_eq_false_iff_ne.2 hp
        have HP := Lib.hid hp
        clear hp
        go_wp2_with fail
        refine (rhead_any' 0 0 0 0 _ rfl rfl (by omega) (by omega)).mono ?_
        rintro r w5 ⟨rfl, hm5⟩
        have HM5 := Lib.hid (HM4.out.trans hm5)
        clear hm5
        go_wp2_with fail
        refine (rboth_any B g F s 1 0 0 (jMark 0 0) _ (HD.out.keep0 HM5.out) (Nat.le_trans hB HM5.out.size) HZ.out rfl (jMark_len 0 0) (by omega) (by omega) (by omega) hl).mono ?_
        intro r w6 h6
        have HQ2 := Lib.hid (h6.from_ HM5.out)
        obtain ⟨rfl, _⟩ := h6
        go_wp2_with fail
        go_ret
        rw [HG.out]
        exact HQ2.out

end Go.Proofs.Ytjmehamkpmimkaa

namespace Go.Proofs.Ytjmehamkpmimkaa
open Go.RowKit

theorem rNum_pos {s : RSt} (h : (rNum s).2.2 = 0) : s.2 = 0 := by
  by_cases hs : s.2 = 0
  · exact hs
  · rw [rNum_err s hs] at h; exact h

/-- What is written to a new block and to block g turns only block g. -/
theorem mod_new {g : Nat} {w a b : World} (h : Mod (fun k => k = g) w a) (hm : Mod (fun k => k = w.heap.size) a b) : Mod (fun k => k = g) w b :=
  h.trans' hm (fun _ _ h => h) (fun k hk hk' => by omega)

theorem Mod.put0 {w w1 : World} (h : Mod Nil w w1) (g i : Nat) (v : Value) : Mod (fun k => k = g) w (w1.setCell ⟨g, i, none⟩ v) := (h.any (F := fun k => k = g)).set (p := ⟨g, i, none⟩) (.inl rfl) v
theorem Mod.put1 {w w1 : World} (h : Mod Nil w w1) (g x i j : Nat) (u v : Value) (hx : w.heap.size ≤ x) : Mod (fun k => k = g) w ((w1.setCell ⟨x, j, none⟩ u).setCell ⟨g, i, none⟩ v) := ((h.any (F := fun k => k = g)).set (p := ⟨x, j, none⟩) (.inr hx) u).set (p := ⟨g, i, none⟩) (.inl rfl) v

/-- Where the document's Texts stands. -/
def RtAt (g gx : Nat) (s : RSt) (w : World) (N : Nat) (s1 : RSt) (k : Nat) (v : Value) (wr : World) : Prop :=
  ∃ (out : List (List UInt8)) (sk : RSt), wr.ownsRow w.heap.size 9 1 v k (out.map sv) ∧ RrdAt wr gx sk ∧ RrdAt wr g s ∧ Mod Nil w wr ∧ sk.1.length ≤ 1000000000 ∧ rLoop N s1 = (out ++ (rLoop (N - k) sk).1, (rLoop (N - k) sk).2)

theorem drewN_drewN (w : World) (a b : Nat) : ∃ k, (w.drewN a).drewN b = w.drewN k := ⟨a + b, by simp [World.drewN, Nat.add_assoc]⟩

end Go.Proofs.Ytjmehamkpmimkaa

namespace Go.Proofs.Ytjmehamkpmimkaa
open Go.RowKit

/-- The first field, as the document's reader sees it in what follows the first area. -/
theorem rjget_num {I L : List UInt8} {a : Nat} {H : List UInt8} (hL : L = I.drop (64 + 64 * a)) (hH : H = hmOf a I) (ha : 1 ≤ a) (hl : 64 + 64 * a + 64 * a ≤ I.length) :
    L.length = I.length - (64 + 64 * a) ∧ (2147483647 < beVal (L.take 4) → rNum (L, 0) = (0, (L, 11)) ∧ rNum (H, 0) = (0, (H, 11))) ∧
    (beVal (L.take 4) ≤ 2147483647 → rNum (L, 0) = (beVal (L.take 4), (L.drop 4, 0)) ∧ rNum (H, 0) = (beVal (L.take 4), (H.drop 4, 0))) ∧ ∀ V, 4 + V ≤ 64 * a → (H.drop 4).take V = (L.drop 4).take V := by
  have hH' : H = L.take (64 * a) := by rw [hH, hL]; rfl
  have hLl : L.length = I.length - (64 + 64 * a) := by rw [hL, List.length_drop]
  have hHl : H.length = 64 * a := by rw [hH', List.length_take]; omega
  have ht : H.take 4 = L.take 4 := by rw [hH', List.take_take, Nat.min_eq_left (by omega)]
  refine ⟨hLl, ?_, ?_, ?_⟩
  · intro h
    constructor
    · unfold rNum; rw [if_pos rfl, if_neg (by show ¬ L.length < 4; omega), if_pos h]
    · unfold rNum; rw [if_pos rfl, if_neg (by show ¬ H.length < 4; omega), if_pos (by show 2147483647 < beVal (H.take 4); rw [ht]; exact h)]
  · intro h
    constructor
    · unfold rNum; rw [if_pos rfl, if_neg (by show ¬ L.length < 4; omega), if_neg (by show ¬ 2147483647 < beVal (L.take 4); omega)]
    · unfold rNum; rw [if_pos rfl, if_neg (by show ¬ H.length < 4; omega), if_neg (by show ¬ 2147483647 < beVal (H.take 4); rw [ht]; omega)]
      show (beVal (H.take 4), (H.drop 4, 0)) = _
      rw [ht]
  · intro V hV
    rw [hH', List.drop_take, List.take_take, Nat.min_eq_left (by omega)]

set_option maxHeartbeats 3200000 in
set_option maxRecDepth 100000 in
theorem rjget_any (B g : Nat) (F : Nat → Prop) (s : DSt) (w : World) (h : RdkAt B w g F s) (hz : Szd s) (hbig : s.ws.length ≤ 1000000) :
    Calls Try.prog 30 #[.pointer (some ⟨g, 0, none⟩)] w fun r w' => r = .returned (.tuple #[.string (str (jGet s).1), .int .i64 (jGet s).2]) ∧ Mod Nil w w' := by
  have HD := Lib.hid h
  have hc0 := h.cell0
  have hs := str_size s.S
  obtain ⟨h1, h2, h3, hok⟩ := hz
  have HZ := Lib.hid (show Szd s from ⟨h1, h2, h3, hok⟩)
  have hil := hok.img
  have his := str_size s.img
  rw [hil] at his
  obtain ⟨M, hM⟩ : ∃ M, M = s.secs := ⟨_, rfl⟩
  obtain ⟨N, hN⟩ : ∃ N, N = s.S.length := ⟨_, rfl⟩
  have HR := Lib.hid (fun w => refRoom4_any (M : Int) w)
  rw [← hM] at h1 h2 h3
  rw [← hN] at hs h3 his
  have ht1 : Int.tdiv (N : Int) 64 = (M : Int) := by rw [Int.tdiv_eq_ediv_of_nonneg (by omega)]; omega
  have hN9 : N ≤ 4194304 := by omega
  rcases room_cases (s := s) (by omega) (by omega) with ⟨hr, h4⟩ | ⟨hr, h4, ha1, ha2, ha3⟩
  · have HG := Lib.hid (show jGet s = ([], 2) by unfold jGet; rw [if_pos (by rw [hr]; decide)])
    rw [hM, hr, ← hM] at HR
    clear h hok h3 hr hM hN hil his h4 h1
    rw [HG.out]
    go_enter Try.func30, Try.ntmps30
    go_wp2_with fail
    refine (HR.out _).mono ?_
    rintro r w1 ⟨rfl, rfl⟩
    go_wp2_with fail
    go_ret2
    exact ⟨rfl, Mod.refl _ _⟩
  · have HA := Lib.hid (fun w' (hm : Mod Nil w w') => rarea_any B g F s w' (HD.out.keep0 hm) HZ.out)
    have HIM := Lib.hid (rdkImage_any B g F s w h hbig)
    obtain ⟨a, ha⟩ : ∃ a, a = jA s.secs := ⟨_, rfl⟩
    have hRn : ¬ jRoom s.secs < 0 := by rw [hr]; omega
    rw [← ha] at HA hr ha1 ha2 ha3
    obtain ⟨R, hR⟩ : ∃ R : Nat, R = 64 * a - 12 := ⟨_, rfl⟩
    rw [← hR] at hr
    rw [hM, hr, ← hM] at HR
    obtain ⟨I, hI⟩ : ∃ I, I = s.img := ⟨_, rfl⟩
    rw [← hI] at HIM his hil
    obtain ⟨L, hL⟩ : ∃ L, L = I.drop (64 + 64 * a) := ⟨_, rfl⟩
    obtain ⟨Hm, hH⟩ : ∃ Hm, Hm = hmOf a I := ⟨_, rfl⟩
    obtain ⟨q1, q2, q3, q4⟩ := rjget_num hL hH ha1 (by omega)
    obtain ⟨V, hV⟩ : ∃ V, V = beVal (L.take 4) := ⟨_, rfl⟩
    rw [← hV] at q2 q3
    obtain ⟨E, hE⟩ : ∃ E, E = 64 + 64 * a := ⟨_, rfl⟩
    have hLs : (str L).size = N - E := by rw [str_size, q1, hil]; omega
    have hx1 : (str I).extract E N = str L := by rw [str_drop I E N (by omega), hL, hE]
    have hE1 : 64 + 64 * (a : Int) = (E : Int) := by omega
    have hE2 : IntKind.i64.wrap (64 * (a : Int)) = 64 * (a : Int) := IntWalk.i64_in _ (by omega)
    have hEN : E ≤ N := by omega
    have hEM : 12 + R ≤ N - E := by omega
    have hR9 : R ≤ 3000000 := by omega
    have hRV : ∀ V, V ≤ R → (Hm.drop 4).take V = (L.drop 4).take V := fun V hv => q4 V (by omega)
    have HL := Lib.hid (show L.length ≤ 1000000000 by omega)
    have hL4 : (str (L.drop 4)).size = N - E - 4 := by rw [str_size, List.length_drop, ← str_size, hLs]
    have HG := Lib.hid (show jGet s = if (rNum (Hm, 0)).2.2 = 0 ∧ ((rNum (Hm, 0)).1 : Int) ≤ (R : Int) then ((Hm.drop 4).take (rNum (Hm, 0)).1, 0) else ([], 11) by unfold jGet; rw [if_neg hRn, ← ha, ← hI, ← hH, hr])
    have HCN := Lib.hid (fun g' w' (hx : RrdAt w' g' (L, 0)) => rrnum_any g' (L, 0) w' hx HL.out)
    clear h hok hr hRn ha hR hM hN hI hil h1 h3 hE ha3 h4 hL hH q1 q4 hV HL
    by_cases hv : 2147483647 < V
    · obtain ⟨e1, e2⟩ := q2 hv
      rw [e2] at HG
      rw [e1] at HCN
      have HG2 := Lib.hid (show jGet s = ([], 11) by rw [HG.out]; exact if_neg (fun h => absurd (show (11 : Int) = 0 from h.1) (by decide)))
      clear hv e1 e2 q2 q3 hRV
      rw [HG2.out]
      go_enter Try.func30, Try.ntmps30
      go_wp2_with fail
      refine (HR.out _).mono ?_
      rintro r w1 ⟨rfl, rfl⟩
      go_wp2_with fail
      refine HIM.out.mono ?_
      rintro r w1 ⟨rfl, hm1⟩
      have HM1 := Lib.hid hm1
      clear hm1
      go_wp2_with fail
      refine (HA.out _ HM1.out).mono ?_
      rintro r w2 ⟨rfl, rfl⟩
      have hz1 := HM1.out.size
      go_wp2_with fail
      refine (HCN.out w1.heap.size _ (Blk.new _ _ _)).mono ?_
      rintro r w3 ⟨rfl, hd3, hm3⟩
      have hy0 := Blk.cell hd3 0
      have hy1 := Blk.cell hd3 1
      have HM3 := Lib.hid (show Mod Nil w w3 from (HM1.out.alloc _).trans' hm3 (fun _ _ h => h) (fun i hi h => by omega))
      clear hd3 hm3
      go_wp2_with fail
      go_ret2
      exact ⟨rfl, HM3.out⟩
    · obtain ⟨e1, e2⟩ := q3 (by omega)
      rw [e2] at HG
      rw [e1] at HCN
      by_cases hvr : V ≤ R
      · have HG2 := Lib.hid (show jGet s = ((L.drop 4).take V, 0) by rw [HG.out, ← hRV V hvr]; exact if_pos ⟨rfl, by show (V : Int) ≤ _; omega⟩)
        have hx2 : (str (L.drop 4)).extract 0 V = str ((L.drop 4).take V) := str_take _ _
        have hVN : V ≤ N - E - 4 := by omega
        clear e1 e2 q2 q3 hRV hv
        rw [HG2.out]
        go_enter Try.func30, Try.ntmps30
        go_wp2_with fail
        refine (HR.out _).mono ?_
        rintro r w1 ⟨rfl, rfl⟩
        go_wp2_with fail
        refine HIM.out.mono ?_
        rintro r w1 ⟨rfl, hm1⟩
        have HM1 := Lib.hid hm1
        clear hm1
        go_wp2_with fail
        refine (HA.out _ HM1.out).mono ?_
        rintro r w2 ⟨rfl, rfl⟩
        have hz1 := HM1.out.size
        go_wp2_with fail
        refine (HCN.out w1.heap.size _ (Blk.new _ _ _)).mono ?_
        rintro r w3 ⟨rfl, hd3, hm3⟩
        have hy0 := Blk.cell hd3 0
        have hy1 := Blk.cell hd3 1
        have HM3 := Lib.hid (show Mod Nil w w3 from (HM1.out.alloc _).trans' hm3 (fun _ _ h => h) (fun i hi h => by omega))
        clear hd3 hm3
        go_wp2_with fail
        go_ret2
        exact ⟨rfl, HM3.out⟩
      · have HG2 := Lib.hid (show jGet s = ([], 11) by rw [HG.out]; exact if_neg (fun h => absurd h.2 (by show ¬ (V : Int) ≤ _; omega)))
        clear e1 e2 q2 q3 hRV hv
        rw [HG2.out]
        go_enter Try.func30, Try.ntmps30
        go_wp2_with fail
        refine (HR.out _).mono ?_
        rintro r w1 ⟨rfl, rfl⟩
        go_wp2_with fail
        refine HIM.out.mono ?_
        rintro r w1 ⟨rfl, hm1⟩
        have HM1 := Lib.hid hm1
        clear hm1
        go_wp2_with fail
        refine (HA.out _ HM1.out).mono ?_
        rintro r w2 ⟨rfl, rfl⟩
        have hz1 := HM1.out.size
        go_wp2_with fail
        refine (HCN.out w1.heap.size _ (Blk.new _ _ _)).mono ?_
        rintro r w3 ⟨rfl, hd3, hm3⟩
        have hy0 := Blk.cell hd3 0
        have hy1 := Blk.cell hd3 1
        have HM3 := Lib.hid (show Mod Nil w w3 from (HM1.out.alloc _).trans' hm3 (fun _ _ h => h) (fun i hi h => by omega))
        clear hd3 hm3
        go_wp2_with fail
        go_ret2
        exact ⟨rfl, HM3.out⟩

end Go.Proofs.Ytjmehamkpmimkaa

namespace Go.Proofs.Ytjmehamkpmimkaa
open Go.RowKit

def rstCells (g : Nat) (s : SSt) : Array Value := #[.pointer (some ⟨g, 0, none⟩), .string (str s.t), .bool s.br, .int .i64 s.n]
/-- The document's store in memory. -/
structure RstAt (B : Nat) (w : World) (q g : Nat) (s : SSt) : Prop where
  low : B ≤ q
  blk : Blk w q 127 (rstCells g s)

section
variable {B q g : Nat} {w w' : World} {s : SSt} {H : Nat → Prop}
theorem RstAt.keep (h : RstAt B w q g s) (hm : Mod H w w') (hF : ¬ H q) : RstAt B w' q g s := ⟨h.low, h.blk.keep hm hF⟩
end

def RstMade (B : Nat) (w : World) (g : Nat) (F : Nat → Prop) (d' : DSt) (e : Int) (t : List UInt8) (r : Ending) (w' : World) : Prop :=
  ∃ F', RdkAt B w' g F' d' ∧ Mod F w w' ∧ (∀ k, F' k → F k ∨ w.heap.size ≤ k) ∧
    ((e = 0 ∧ ∃ q, r = .returned (.tuple #[.pointer (some ⟨q, 0, none⟩), .int .i64 0]) ∧ RstAt B w' q g ⟨t, false, 0⟩ ∧ w.heap.size ≤ q ∧ ¬ F' q) ∨ (e ≠ 0 ∧ r = .returned (.tuple #[.pointer none, .int .i64 e])))

theorem RstMade.of_new {B g : Nat} {F F2 : Nat → Prop} {d2 : DSt} {t : List UInt8} {w w2 : World} (hB : B ≤ w.heap.size) (hd : RdkAt B w2 g F2 d2) (hm : Mod F w w2) (hF : ∀ k, F2 k → F k ∨ w.heap.size ≤ k) :
    RstMade B w g F d2 0 t (.returned (.tuple #[.pointer (some ⟨w2.heap.size, 0, none⟩), .int .i64 0])) (w2.alloc (.cells #[.pointer (some ⟨g, 0, none⟩), .string (str t), .bool false, .int .i64 0] 127)) :=
  ⟨F2, hd.keep0 ((Mod.refl Nil w2).alloc _), hm.alloc _, hF, .inl ⟨rfl, _, rfl, ⟨Nat.le_trans hB hm.size, Blk.new _ _ _⟩, hm.size, fun h => by have := (hd.lt _ h).2; omega⟩⟩

set_option maxHeartbeats 3200000 in
set_option maxRecDepth 100000 in
theorem rstFormat_any (B g : Nat) (F : Nat → Prop) (d : DSt) (t : List UInt8) (w : World) (h : RdkAt B w g F d) (hz : Szd d) (hB : B ≤ w.heap.size) (hn : t.length ≤ 1000000) (hbig : d.ws.length ≤ 400000) (hl : d.left ≤ 9223372036854775807) :
    Calls Try.prog 41 #[.pointer (some ⟨g, 0, none⟩), .string (str t)] w (RstMade B w g F (jFormat (sealed t) d).1 (jFormat (sealed t) d).2 t) := by
  have HD := Lib.hid h
  clear h
  go_enter Try.func41, Try.ntmps41
  go_wp2_with fail
  refine (refSeal_any (str t) _ (by rw [str_size]; omega)).mono ?_
  rintro r w1 ⟨rfl, hm1⟩
  rw [str_list]
  have HM1 := Lib.hid hm1
  clear hm1
  go_wp2_with fail
  refine (rformat_any B g F d (sealed t) _ (HD.out.keep0 HM1.out) (Nat.le_trans hB HM1.out.size) hz (by omega) hl).mono ?_
  rintro r w2 ⟨rfl, F2, hd2, hm2, hF2⟩
  obtain ⟨e, he⟩ : ∃ e, e = (jFormat (sealed t) d).2 := ⟨_, rfl⟩
  obtain ⟨d2, hd2e⟩ : ∃ d2, d2 = (jFormat (sealed t) d).1 := ⟨_, rfl⟩
  rw [← he]
  rw [← hd2e] at hd2
  have HP := Lib.hid (show jFormat (sealed t) d = (d2, e) by rw [he, hd2e])
  have HD2 := Lib.hid hd2
  have HM2 := Lib.hid (show Mod F w w2 from (HM1.out.any).trans hm2)
  have HF2 := Lib.hid (show ∀ k, F2 k → F k ∨ w.heap.size ≤ k from fun k hk => (hF2 k hk).imp id (fun h => Nat.le_trans HM1.out.size h))
  clear hd2 hm2 hF2 he hd2e
  by_cases h0 : e = 0
  · subst h0
    go_wp2_with fail
    go_ret2
    rw [HP.out]
    exact RstMade.of_new hB HD2.out HM2.out HF2.out
  · go_wp2_with fail
    go_ret2
    rw [HP.out]
    exact ⟨F2, HD2.out, HM2.out, HF2.out, .inr ⟨h0, rfl⟩⟩

set_option maxHeartbeats 3200000 in
set_option maxRecDepth 100000 in
theorem rstOpen_any (B g : Nat) (F : Nat → Prop) (d : DSt) (w : World) (h : RdkAt B w g F d) (hz : Szd d) (hz2 : Szd (jRecover d).1) (hB : B ≤ w.heap.size) (hbig : d.ws.length ≤ 400000) (hws : (jRecover d).1.ws.length ≤ 1000000) (hl : d.left ≤ 9223372036854775807) (hsm : (jGet (jRecover d).1).1.length ≤ 1000000) :
    Calls Try.prog 40 #[.pointer (some ⟨g, 0, none⟩)] w (RstMade B w g F (sOpen d).1 (sOpen d).2.2 (sOpen d).2.1) := by
  have HD := Lib.hid h
  clear h
  go_enter Try.func40, Try.ntmps40
  go_wp2_with fail
  refine (rrecover_any B g F d _ HD.out hB hz (by omega) hl).mono ?_
  rintro r w2 ⟨rfl, F2, hd2, hm2, hF2⟩
  obtain ⟨d2, hd2e⟩ : ∃ d2, d2 = (jRecover d).1 := ⟨_, rfl⟩
  obtain ⟨e, he⟩ : ∃ e, e = (jRecover d).2 := ⟨_, rfl⟩
  rw [← hd2e] at hd2 hws hsm hz2
  rw [← he]
  have HRE := Lib.hid (show jRecover d = (d2, e) by rw [he, hd2e])
  have HD2 := Lib.hid hd2
  have HM2 := Lib.hid hm2
  have HF2 := Lib.hid hF2
  have HWS := Lib.hid hws
  have HZ2 := Lib.hid hz2
  clear hd2 hm2 hF2 he hd2e hws hz2
  by_cases h0 : e = 0
  · subst h0
    go_wp2_with fail
    refine (rjget_any B g F2 d2 _ HD2.out HZ2.out HWS.out).mono ?_
    rintro r w3 ⟨rfl, hm3⟩
    obtain ⟨t, ht⟩ : ∃ t, t = (jGet d2).1 := ⟨_, rfl⟩
    obtain ⟨e, he⟩ : ∃ e, e = (jGet d2).2 := ⟨_, rfl⟩
    rw [← ht] at hsm ⊢
    rw [← he]
    have HTE := Lib.hid (show jGet d2 = (t, e) by rw [ht, he])
    have HM3 := Lib.hid hm3
    have HSM := Lib.hid hsm
    clear ht he hm3 hsm
    by_cases h0 : e = 0
    · subst h0
      go_wp2_with fail
      refine (refOpen_any' (str t) _ (by rw [str_size]; have := HSM.out; omega)).mono ?_
      rintro r w4 ⟨rfl, hm4⟩
      rw [str_list]
      obtain ⟨t4, ht4⟩ : ∃ t4, t4 = (openM t).1 := ⟨_, rfl⟩
      obtain ⟨e, he⟩ : ∃ e, e = (openM t).2 := ⟨_, rfl⟩
      rw [← ht4, ← he]
      have HE := Lib.hid (show sOpen d = (d2, t4, e) by rw [sOpen_ok HRE.out HTE.out, ht4, he])
      have HM4 := Lib.hid (HM3.out.trans hm4)
      clear ht4 he hm4
      by_cases h0 : e = 0
      · subst h0
        go_wp2_with fail
        go_ret2
        rw [HE.out]
        exact RstMade.of_new hB (HD2.out.keep0 HM4.out) (HM2.out.trans' HM4.out (fun _ _ h => h) (fun _ _ h => h.elim)) HF2.out
      · go_wp2_with fail
        go_ret2
        rw [HE.out]
        exact ⟨F2, HD2.out.keep0 HM4.out, HM2.out.trans' HM4.out (fun _ _ h => h) (fun _ _ h => h.elim), HF2.out, .inr ⟨h0, rfl⟩⟩
    · go_wp2_with fail
      go_ret2
      rw [sOpen_bad2 HRE.out HTE.out h0]
      exact ⟨F2, HD2.out.keep0 HM3.out, HM2.out.trans' HM3.out (fun _ _ h => h) (fun _ _ h => h.elim), HF2.out, .inr ⟨h0, rfl⟩⟩
  · go_wp2_with fail
    go_ret2
    rw [sOpen_bad HRE.out h0]
    exact ⟨F2, HD2.out, HM2.out, HF2.out, .inr ⟨h0, rfl⟩⟩

def RSavePost (B : Nat) (w : World) (q g : Nat) (F : Nat → Prop) (s' : SSt) (d' : DSt) (e : Int) (r : Ending) (w' : World) : Prop :=
  r = .returned (.int .i64 e) ∧ ∃ F', RdkAt B w' g F' d' ∧ RstAt B w' q g s' ∧ ¬ F' q ∧ Mod (fun k => F k ∨ k = q) w w' ∧ (∀ k, F' k → F k ∨ w.heap.size ≤ k)

set_option maxHeartbeats 6400000 in
set_option maxRecDepth 100000 in
theorem rstSave_any (B q g : Nat) (F : Nat → Prop) (s : SSt) (d : DSt) (t : List UInt8) (w : World) (hd : RdkAt B w g F d) (hz : Szd d) (hs : RstAt B w q g s) (hFq : ¬ F q) (hB : B ≤ w.heap.size)
    (hn : t.length ≤ 1000000) (hbig : d.ws.length ≤ 400000) (hl : d.left ≤ 9223372036854775807) (hfew : 0 ≤ s.n ∧ s.n ≤ 999999) :
    Calls Try.prog 39 #[.pointer (some ⟨q, 0, none⟩), .string (str t)] w (RSavePost B w q g F (sSave t s d).1 (sSave t s d).2.1 (sSave t s d).2.2) := by
  have HD := Lib.hid hd
  have HI := Lib.hid hs
  have HFQ := Lib.hid hFq
  obtain ⟨st, br, sn⟩ := s
  have hc2 : w.cell? ⟨q, 2, none⟩ = some (.bool br) := hs.blk.cell 2
  have hn1 : 0 ≤ sn := hfew.1
  have hn2 : sn ≤ 999999 := hfew.2
  have hc0 : w.cell? ⟨q, 0, none⟩ = some (.pointer (some ⟨g, 0, none⟩)) := hs.blk.cell 0
  clear hd hs hFq hfew
  cases br
  · go_enter Try.func39, Try.ntmps39
    go_wp2_with fail
    obtain ⟨e, he⟩ : ∃ e, e = (jPut (sealed t) d).2 := ⟨_, rfl⟩
    obtain ⟨d2, hd2e⟩ : ∃ d2, d2 = (jPut (sealed t) d).1 := ⟨_, rfl⟩
    have HP := Lib.hid (show jPut (sealed t) d = (d2, e) by rw [he, hd2e])
    clear he hd2e hc2
    go_region_law (first
      | (go_simp
         go_at_call 82
         refine (refSeal_any (str t) _ (by rw [str_size]; omega)).mono ?_
         rintro r w1 ⟨rfl, hm1⟩
         rw [str_list]
         have hc0 : w1.cell? ⟨q, 0, none⟩ = some (.pointer (some ⟨g, 0, none⟩)) := ((HI.out.blk.keep ((Mod.refl Nil w).drew) id).keep hm1 id).cell 0
         have HM1 := Lib.hid (show Mod Nil w w1 from ((Mod.refl Nil w).drew).trans hm1)
         clear hm1)
      | (go_simp
         go_at_call 18
         refine (rput_any B g F d (sealed t) _ (HD.out.keep0 HM1.out) (Nat.le_trans hB HM1.out.size) hz (by omega) hl).mono ?_
         rintro r w2 ⟨rfl, F2, hd2, hm2, hF2⟩
         rw [HP.out] at hd2 ⊢
         have HD2 := Lib.hid (show RdkAt B w2 g F2 d2 from hd2)
         have HM2 := Lib.hid (show Mod F w w2 from HM1.out.any.trans hm2)
         have HF2 := Lib.hid (show ∀ k, F2 k → F k ∨ w.heap.size ≤ k from fun k hk => (hF2 k hk).imp id (fun h => Nat.le_trans HM1.out.size h))
         clear hd2 hm2 hF2))
    all_goals
      go_simp
      have hb2 := HI.out.blk.keep HM2.out HFQ.out
      have hq0 := HI.out.blk.lt
      have hq2 : ¬ F2 q := fun h => (HF2.out q h).elim HFQ.out (fun h => by omega)
      have HQ2 := Lib.hid hq2
      have HB2 := Lib.hid hb2
      have hc1 : w2.cell? ⟨q, 1, none⟩ = some (.string (str st)) := hb2.cell 1
      have hc2 : w2.cell? ⟨q, 2, none⟩ = some (.bool false) := hb2.cell 2
      have hc3 : w2.cell? ⟨q, 3, none⟩ = some (.int .i64 sn) := hb2.cell 3
      have hz1 := hb2.frozen 1
      have hz2 := hb2.frozen 2
      have hz3 := hb2.frozen 3
      clear hb2 hq0 hq2
      have hset : ∀ w', Mod (fun k => k = q) w2 w' → RdkAt B w' g F2 d2 ∧ Mod (fun k => F k ∨ k = q) w w' := fun w' hm => ⟨HD2.out.keep hm (fun k hk he => HQ2.out (he ▸ hk)), HM2.out.trans' hm (fun _ _ h => .inl h) (fun _ _ h => .inr h)⟩
      have HSET := Lib.hid hset
      clear hset
      by_cases h0 : e = 0
      · subst h0
        go_wp2_with fail
        go_ret
        rw [show sSave t ⟨st, false, sn⟩ d = (⟨t, false, sn + 1⟩, d2, 0) by unfold sSave; rw [HP.out]; simp]
        obtain ⟨h1, h2⟩ := HSET.out _ (((Mod.refl (fun k => k = q) w2).set (p := ⟨q, 1, none⟩) (.inl rfl) (.string (str t))).set (p := ⟨q, 3, none⟩) (.inl rfl) (.int .i64 (sn + 1)))
        exact ⟨rfl, F2, h1, ⟨HI.out.low, ((HB2.out.set_ 1 (.string (str t))).set_ 3 (.int .i64 (sn + 1)))⟩, HQ2.out, h2, HF2.out⟩
      · by_cases h21 : e = 21
        · subst h21
          go_wp2_with fail
          go_ret
          rw [show sSave t ⟨st, false, sn⟩ d = (⟨st, false, sn⟩, d2, 21) by unfold sSave; rw [HP.out]; simp]
          exact ⟨rfl, F2, HD2.out, ⟨HI.out.low, HB2.out⟩, HQ2.out, HM2.out.mono (fun _ _ h => .inl h), HF2.out⟩
        · go_wp2_with fail
          go_ret
          rw [show sSave t ⟨st, false, sn⟩ d = (⟨st, true, sn⟩, d2, 80) by unfold sSave; rw [HP.out]; simp [h0, h21]]
          obtain ⟨h1, h2⟩ := HSET.out _ ((Mod.refl (fun k => k = q) w2).set (p := ⟨q, 2, none⟩) (.inl rfl) (.bool true))
          exact ⟨rfl, F2, h1, ⟨HI.out.low, (HB2.out.set_ 2 (.bool true))⟩, HQ2.out, h2, HF2.out⟩
  · go_enter Try.func39, Try.ntmps39
    go_wp2_with fail
    go_ret
    rw [show sSave t ⟨st, true, sn⟩ d = (⟨st, true, sn⟩, d, 80) by unfold sSave; simp]
    exact ⟨rfl, F, HD.out, HI.out, HFQ.out, Mod.refl _ _, fun _ h => .inl h⟩
end Go.Proofs.Ytjmehamkpmimkaa

namespace Go.Proofs.Ytjmehamkpmimkaa
open Go.RowKit

/-- An act of the laws of layer 4. -/
structure Act4 where
  kind : Int
  raw : Act3

def Act4At (S : Nat → Prop) (w : World) (b off : Nat) (a : Act4) : Prop :=
  w.cell? ⟨b, off, none⟩ = some (.int .i64 a.kind) ∧ ActAt S w b (off + 1) a.raw

def Acts4At (S : Nat → Prop) (w : World) (A : Option Addr) (l : List Act4) : Prop :=
  0 < l.length → ∃ b o, A = some ⟨b, o, none⟩ ∧ S b ∧ b < w.heap.size ∧ ∀ (i : Nat) (a : Act4), l[i]? = some a → Act4At S w b (o + i * 6) a

theorem Act4At.keep_ {S F : Nat → Prop} {w w' : World} {b off : Nat} {a : Act4} (h : Act4At S w b off a) (hb : b < w.heap.size) (hs : S b) (hm : Mod F w w') (hS : ∀ b, S b → ¬ F b) : Act4At S w' b off a :=
  ⟨(hm.cell hb (hS _ hs)).trans h.1, h.2.keep_ hb hs hm hS⟩

theorem Acts4At.keep {S F : Nat → Prop} {w w' : World} {A : Option Addr} {l : List Act4} (h : Acts4At S w A l) (hm : Mod F w w') (hS : ∀ b, S b → ¬ F b) : Acts4At S w' A l := fun hn => by
  obtain ⟨b, o, e, hs, hb, hf⟩ := h hn
  exact ⟨b, o, e, hs, Nat.lt_of_lt_of_le hb hm.size, fun i f hi => (hf i f hi).keep_ hb hs hm hS⟩

/-- Which acts are small. -/
def act4Small (a : Act4) : Bool := a.raw.b.length ≤ 600 && a.raw.keep.length ≤ 60
def acts4Small (m : Nat) (l : List Act4) : Bool := l.length ≤ m && l.all act4Small

set_option maxHeartbeats 1600000 in
set_option maxRecDepth 100000 in
theorem small4_any (S : Nat → Prop) (A : Option Addr) (n c m : Nat) (mv : Int) (l : List Act4) (w : World) (hmv : mv = m) (hm : m ≤ 1000) (hn : l.length = n) (hr : Acts4At S w A l) :
    Calls Try.prog 12 #[.slice A n c, .int .i64 mv] w fun r w' => r = .returned (.bool (acts4Small m l)) ∧ w = w' := by
  subst hmv
  have HN := Lib.hid hn
  have HR := Lib.hid hr
  clear hn hr
  by_cases h40 : m < n
  · have hb : acts4Small m l = false := by unfold acts4Small; rw [HN.out]; simp; omega
    rw [hb]
    go_enter Try.func12, Try.ntmps12
    go_wp2_with fail
    go_ret
    exact ⟨rfl, rfl⟩
  · go_enter Try.func12, Try.ntmps12
    go_wp2_with fail
    go_loop [5] (fun i => ∃ k : Nat, k ≤ n ∧ i = .int .i64 k ∧ (l.take k).all act4Small = true) (fun i => n - (intOf i).toNat)
    case atStart => exact ⟨0, Nat.zero_le _, rfl, rfl⟩
    case round =>
      obtain ⟨k, hk, rfl, hall⟩ := hrel
      have HALL := Lib.hid hall
      clear hall
      by_cases hlt : k < n
      · obtain ⟨a, ha⟩ : ∃ a, l[k]? = some a := ⟨_, List.getElem?_eq_getElem (by rw [HN.out]; exact hlt)⟩
        obtain ⟨b, o, rfl, _, _, hat⟩ := HR.out (by rw [HN.out]; omega)
        obtain ⟨_, h0, h1, h2, ⟨B, cB, h3, hl3, _⟩, K, cK, h4, hl4, _⟩ := hat k a ha
        have HA := Lib.hid ha
        clear hat ha h0 h1 h2
        rw [Nat.add_assoc] at h3 h4
        have hno : act4Small a = false → acts4Small m l = false := fun h => by
          unfold acts4Small
          rw [show l.all act4Small = false by rw [List.all_eq_false]; exact ⟨a, List.mem_of_getElem? HA.out, by rw [h]; simp⟩]
          simp
        have HNO := Lib.hid hno
        clear hno
        by_cases hA : 600 < a.raw.b.length
        · have HBq := Lib.hid (HNO.out (by unfold act4Small; simp; omega))
          go_wp2_with fail
          go_ret
          exact ⟨ret_bool HBq.out.symm, rfl⟩
        by_cases hB : 60 < a.raw.keep.length
        · have HBq := Lib.hid (HNO.out (by unfold act4Small; simp; omega))
          go_wp2_with fail
          go_ret
          exact ⟨ret_bool HBq.out.symm, rfl⟩
        have HS := Lib.hid (show act4Small a = true by unfold act4Small; simp; omega)
        go_wp2_with fail
        go_round
        case rel => exact ⟨k + 1, by omega, by go_num, by rw [List.take_add_one, HA.out]; simp [HS.out]; simpa using HALL.out⟩
        case measure => simp [intOf] <;> omega
      · have HBq := Lib.hid (show acts4Small m l = true by unfold acts4Small; have := HALL.out; rw [List.take_of_length_le (by have := HN.out; omega)] at this; rw [this, HN.out]; simp; omega)
        go_wp2_with fail
        go_ret
        exact ⟨ret_bool HBq.out.symm, rfl⟩

theorem acts4Small_len {m : Nat} {l : List Act4} (h : acts4Small m l = true) : l.length ≤ m := by
  unfold acts4Small at h
  simp at h
  exact h.1
theorem acts4Small_at {m : Nat} {l : List Act4} {k : Nat} {a : Act4} (h : acts4Small m l = true) (ha : l[k]? = some a) : a.raw.b.length ≤ 600 ∧ a.raw.keep.length ≤ 60 := by
  unfold acts4Small at h
  simp at h
  have := h.2 a (List.mem_of_getElem? ha)
  unfold act4Small at this
  simpa using this

end Go.Proofs.Ytjmehamkpmimkaa

namespace Go.Proofs.Ytjmehamkpmimkaa
open Go.RowKit

theorem spend_S (s : DSt) : s.spend.S = s.S := by unfold DSt.spend; split <;> rfl

/-- Both disks, with one state. -/
def Both (w0 : World) (g g' : Nat) (F F' : Nat → Prop) (s : DSt) (wr : World) : Prop :=
  DskAt w0.heap.size wr g F s ∧ RdkAt w0.heap.size wr g' F' s ∧ (∀ k, F k → ¬ F' k) ∧ Mod Nil w0 wr

theorem Both.disk {w0 wr w1 : World} {g g' : Nat} {F F' F1 : Nat → Prop} {s s1 : DSt} (h : Both w0 g g' F F' s wr) (hd : DskAt w0.heap.size w1 g F1 s1) (hm : Mod F wr w1) (hF : ∀ k, F1 k → F k ∨ wr.heap.size ≤ k) :
    RdkAt w0.heap.size w1 g' F' s ∧ (∀ k, F1 k → ¬ F' k) ∧ Mod Nil w0 w1 :=
  ⟨h.2.1.keep hm (fun k hk hkF => h.2.2.1 k hkF hk), fun k hk hk' => (hF k hk).elim (fun h' => h.2.2.1 k h' hk') (fun h' => by have := (h.2.1.lt k hk').2; omega), h.2.2.2.disk h.1 hm (Nat.le_refl _)⟩

theorem both_ref {w0 w1 w2 : World} {g g' : Nat} {F1 F' F2 : Nat → Prop} {s s2 : DSt} (hd : DskAt w0.heap.size w1 g F1 s2) (hr : RdkAt w0.heap.size w1 g' F' s) (hFF : ∀ k, F1 k → ¬ F' k) (hm0 : Mod Nil w0 w1) (hd2 : RdkAt w0.heap.size w2 g' F2 s2) (hm : Mod F' w1 w2) (hF : ∀ k, F2 k → F' k ∨ w1.heap.size ≤ k) :
    Both w0 g g' F1 F2 s2 w2 :=
  ⟨hd.keep hm (fun k hk => hFF k hk), hd2, fun k hk hk' => (hF k hk').elim (fun h' => hFF k hk h') (fun h' => by have := (hd.lt k hk).2; omega), hm0.trans' hm (fun _ _ h => h) (fun k hk hF => absurd hk (by have := (hr.lt k hF).1; omega))⟩

theorem Both.keep0 {w0 wr w1 : World} {g g' : Nat} {F F' : Nat → Prop} {s : DSt} (h : Both w0 g g' F F' s wr) (hm : Mod Nil wr w1) : Both w0 g g' F F' s w1 :=
  ⟨h.1.keep0 hm, h.2.1.keep0 hm, h.2.2.1, h.2.2.2.trans hm⟩

theorem DskAt.szd {B g : Nat} {F : Nat → Prop} {s : DSt} {w : World} (h : DskAt B w g F s) : Szd s := h.sized

theorem put_few (t : List UInt8) (s : DSt) (hs : DOk s) (ha : jA s.secs ≤ 7) : DOk (jPut t s).1 ∧ Grows 100 s (jPut t s).1 := by
  unfold jPut
  split
  · rename_i hf
    have hb : (jArea (jA s.secs) t).length = 64 * jA s.secs := jArea_len (jfits_room hf)
    obtain ⟨h1, h2⟩ := steps_g s.home (jArea (jA s.secs) t) s hs
    exact ⟨h1, h2.mono (by rw [hb]; omega)⟩
  · exact ⟨hs, (Grows.refl s).mono (Nat.zero_le _)⟩
theorem format_few (t : List UInt8) (s : DSt) (hs : DOk s) (ha : jA s.secs ≤ 7) : DOk (jFormat t s).1 ∧ Grows 100 s (jFormat t s).1 := by
  unfold jFormat
  split
  · rename_i hf
    have hb : (jArea (jA s.secs) t).length = 64 * jA s.secs := jArea_len (jfits_room hf)
    have h0 := jMark_len 0 0
    obtain ⟨h1, h2⟩ := both_g s.home (jArea (jA s.secs) t) (both_g 0 (jMark 0 0) run_nil_g) s hs
    exact ⟨h1, h2.mono (by rw [hb, h0]; omega)⟩
  · exact ⟨hs, (Grows.refl s).mono (Nat.zero_le _)⟩
theorem recover_few (s : DSt) (hs : DOk s) (ha : jA s.secs ≤ 7) : DOk (jRecover s).1 ∧ Grows 100 s (jRecover s).1 := by
  have hn : ∀ I : List UInt8, (jnOf (jA s.secs) I).length / 64 ≤ 7 := fun I => by
    have : (jnOf (jA s.secs) I).length ≤ 64 * jA s.secs := by rw [jnOf, List.length_take]; omega
    omega
  unfold jRecover
  split
  · exact ⟨hs, (Grows.refl s).mono (Nat.zero_le _)⟩
  · split
    · have h0 := jMark_len 0 (crcSum (jnOf (jA s.secs) s.img))
      obtain ⟨h1, h2⟩ := run_cons_g sync_g (both_g s.home (jnOf (jA s.secs) s.img) (both_g 0 (jMark 0 (crcSum (jnOf (jA s.secs) s.img))) run_nil_g)) s hs
      exact ⟨h1, h2.mono (by rw [h0]; have := hn s.img; omega)⟩
    · split
      · exact ⟨hs, (Grows.refl s).mono (Nat.zero_le _)⟩
      · have h0 := jMark_len 0 0
        obtain ⟨h1, h2⟩ := both_g 0 (jMark 0 0) run_nil_g s hs
        exact ⟨h1, h2.mono (by rw [h0]; omega)⟩

/-- What n sectors, and what waits, mean. -/
def Fewer (N i : Nat) (s : DSt) : Prop := s.S.length = 64 * N ∧ s.ws.length ≤ 100 * i ∧ s.left ≤ 9223372036854775807
theorem Fewer.grow {N i : Nat} {s s' : DSt} (h : Fewer N i s) (hg : Grows 100 s s') : Fewer N (i + 1) s' :=
  ⟨hg.1.trans h.1, by have := hg.2.1; have := h.2.1; omega, Int.le_trans hg.2.2 h.2.2⟩
theorem Fewer.next {N i : Nat} {s : DSt} (h : Fewer N i s) : Fewer N (i + 1) s := ⟨h.1, by have := h.2.1; omega, h.2.2⟩
theorem Fewer.area {N i : Nat} {s : DSt} (h : Fewer N i s) (hN : N ≤ 16) : jA s.secs ≤ 7 := by
  have h1 : s.secs = N := by unfold DSt.secs; rw [h.1]; omega
  rw [h1]; unfold jA; omega

theorem octets_few {a : Act3} (h : a.b.length ≤ 600) : a.octets.length ≤ 600 := by
  unfold Act3.octets
  split
  · simp
  · exact h

/-- Where the law JournalActs stands behind i acts. -/
def ActsStand4 (w0 : World) (g g' N i : Nat) (wr : World) : Prop := ∃ F F' s, Both w0 g g' F F' s wr ∧ Fewer N i s
end Go.Proofs.Ytjmehamkpmimkaa

namespace Go.Proofs.Ytjmehamkpmimkaa
open Go.RowKit

/-- The program's disk, and its store if there is one. -/
def PA (B : Nat) (g : Nat) (FA : Nat → Prop) (sv : Value) (d : DSt) (o : Option SSt) (w : World) : Prop :=
  match o with
  | none => sv = .pointer none ∧ DskAt B w g FA d
  | some s => ∃ p F G, sv = .pointer (some ⟨p, 0, none⟩) ∧ FA = (fun k => F k ∨ G k) ∧ DskAt B w g F d ∧ StoAt B w p g G s ∧ ∀ k, F k → ¬ G k
/-- The document's. -/
def PB (B : Nat) (g : Nat) (FB : Nat → Prop) (mv : Value) (d : DSt) (o : Option SSt) (w : World) : Prop :=
  match o with
  | none => mv = .pointer none ∧ RdkAt B w g FB d
  | some s => ∃ q F, mv = .pointer (some ⟨q, 0, none⟩) ∧ FB = (fun k => F k ∨ k = q) ∧ RdkAt B w g F d ∧ RstAt B w q g s ∧ ¬ F q

def PAPost (B : Nat) (w : World) (g : Nat) (FA : Nat → Prop) (sv : Value) (d' : DSt) (o' : Option SSt) (e r : Ending) (w' : World) : Prop :=
  r = e ∧ ∃ FA', PA B g FA' sv d' o' w' ∧ Mod FA w w' ∧ ∀ k, FA' k → FA k ∨ w.heap.size ≤ k
def PBPost (B : Nat) (w : World) (g : Nat) (FB : Nat → Prop) (mv : Value) (d' : DSt) (o' : Option SSt) (e r : Ending) (w' : World) : Prop :=
  r = e ∧ ∃ FB', PB B g FB' mv d' o' w' ∧ Mod FB w w' ∧ ∀ k, FB' k → FB k ∨ w.heap.size ≤ k

section
variable {B g : Nat} {w w' : World} {FA FB H : Nat → Prop} {sv mv : Value} {d d' : DSt} {o o' : Option SSt}
theorem PA.keep (h : PA B g FA sv d o w) (hm : Mod H w w') (hF : ∀ k, FA k → ¬ H k) : PA B g FA sv d o w' := by
  cases o with
  | none => exact ⟨h.1, h.2.keep hm hF⟩
  | some s =>
    obtain ⟨p, F, G, rfl, rfl, h1, h2, h3⟩ := h
    exact ⟨p, F, G, rfl, rfl, h1.keep hm (fun k hk => hF k (.inl hk)), h2.keep hm (fun k hk => hF k (.inr hk)), h3⟩
theorem PB.keep (h : PB B g FB mv d o w) (hm : Mod H w w') (hF : ∀ k, FB k → ¬ H k) : PB B g FB mv d o w' := by
  cases o with
  | none => exact ⟨h.1, h.2.keep hm hF⟩
  | some s =>
    obtain ⟨q, F, rfl, rfl, h1, h2, h3⟩ := h
    exact ⟨q, F, rfl, rfl, h1.keep hm (fun k hk => hF k (.inl hk)), h2.keep hm (hF q (.inr rfl)), h3⟩
theorem PA.lt (h : PA B g FA sv d o w) : ∀ k, FA k → B ≤ k ∧ k < w.heap.size := by
  cases o with
  | none => exact h.2.lt
  | some s =>
    obtain ⟨p, F, G, rfl, rfl, h1, h2, h3⟩ := h
    exact fun k hk => hk.elim (h1.lt k) (h2.lt k)
theorem PB.lt (h : PB B g FB mv d o w) : ∀ k, FB k → B ≤ k ∧ k < w.heap.size := by
  cases o with
  | none => exact h.2.lt
  | some s =>
    obtain ⟨q, F, rfl, rfl, h1, h2, h3⟩ := h
    refine fun k hk => hk.elim (h1.lt k) (fun h => ?_)
    subst h
    exact ⟨h2.low, h2.blk.lt⟩
theorem PA.dsk (h : PA B g FA sv d o w) : ∃ F, DskAt B w g F d ∧ ∀ k, F k → FA k := by
  cases o with
  | none => exact ⟨FA, h.2, fun _ h => h⟩
  | some s =>
    obtain ⟨p, F, G, rfl, rfl, h1, h2, h3⟩ := h
    exact ⟨F, h1, fun _ h => .inl h⟩
theorem PB.rdk (h : PB B g FB mv d o w) : ∃ F, RdkAt B w g F d ∧ ∀ k, F k → FB k := by
  cases o with
  | none => exact ⟨FB, h.2, fun _ h => h⟩
  | some s =>
    obtain ⟨q, F, rfl, rfl, h1, h2, h3⟩ := h
    exact ⟨F, h1, fun _ h => .inl h⟩
/-- A call of the disk alone leaves the store. -/
theorem PA.call (h : PA B g FA sv d o w) {e : Ending} {n : FuncId} {args : Array Value}
    (hc : ∀ F, DskAt B w g F d → (∀ k, F k → FA k) → Calls Try.prog n args w (DskPost B w g F d' e)) : Calls Try.prog n args w (PAPost B w g FA sv d' o e) := by
  cases o with
  | none =>
    refine (hc FA h.2 (fun _ h => h)).mono ?_
    rintro r w1 ⟨rfl, F1, hd, hm, hF⟩
    exact ⟨rfl, F1, ⟨h.1, hd⟩, hm, hF⟩
  | some s =>
    obtain ⟨p, F, G, rfl, rfl, h1, h2, h3⟩ := h
    refine (hc F h1 (fun _ h => .inl h)).mono ?_
    rintro r w1 ⟨rfl, F1, hd, hm, hF⟩
    refine ⟨rfl, fun k => F1 k ∨ G k, ⟨p, F1, G, rfl, rfl, hd, h2.keep hm (fun k hk hkF => h3 k hkF hk), fun k hk hk2 => (hF k hk).elim (fun h => h3 k h hk2) (fun h => by have := (h2.lt k hk2).2; omega)⟩, hm.mono (fun _ _ h => .inl h), fun k hk => ?_⟩
    rcases hk with hk | hk
    · exact (hF k hk).imp .inl id
    · exact .inl (.inr hk)
theorem PB.call (h : PB B g FB mv d o w) {e : Ending} {n : FuncId} {args : Array Value}
    (hc : ∀ F, RdkAt B w g F d → (∀ k, F k → FB k) → Calls Try.prog n args w (RdkPost B w g F d' e)) : Calls Try.prog n args w (PBPost B w g FB mv d' o e) := by
  cases o with
  | none =>
    refine (hc FB h.2 (fun _ h => h)).mono ?_
    rintro r w1 ⟨rfl, F1, hd, hm, hF⟩
    exact ⟨rfl, F1, ⟨h.1, hd⟩, hm, hF⟩
  | some s =>
    obtain ⟨q, F, rfl, rfl, h1, h2, h3⟩ := h
    have hq := h2.blk.lt
    refine (hc F h1 (fun _ h => .inl h)).mono ?_
    rintro r w1 ⟨rfl, F1, hd, hm, hF⟩
    refine ⟨rfl, fun k => F1 k ∨ k = q, ⟨q, F1, rfl, rfl, hd, h2.keep hm h3, fun hk => (hF q hk).elim h3 (fun h => by omega)⟩, hm.mono (fun _ _ h => .inl h), fun k hk => ?_⟩
    rcases hk with hk | hk
    · exact (hF k hk).imp .inl id
    · exact .inl (.inr hk)
end

/-- What a store made means for a law's side. -/
def madeOf (e : Int) (t : List UInt8) : Option SSt := if e = 0 then some ⟨t, false, 0⟩ else none

theorem pa_save (B g : Nat) (FA S : Nat → Prop) (sv : Value) (s : SSt) (d : DSt) (A : Option Addr) (n c : Nat) (t : List UInt8) (w : World) (h : PA B g FA sv d (some s) w) (hB : B ≤ w.heap.size)
    (ht : t.length = n) (hn : n ≤ 1000000) (hr : Rd S w A (t.map bv)) (hS : ∀ k, S k → ¬ FA k) (hbig : d.ws.length ≤ 400000) (hl : d.left ≤ 9223372036854775807) (hfew : s.n ≤ 999999) :
    Calls Try.prog 36 #[sv, .slice A n c] w (PAPost B w g FA sv (sSave t s d).2.1 (some (sSave t s d).1) (.returned (.int .i64 (sSave t s d).2.2))) := by
  obtain ⟨p, F, G, rfl, rfl, h1, h2, h3⟩ := h
  refine (stoSave_any B p g F G S s d A n c t w h1 h2 h3 hB ht hn hr (fun k hk hF => hS k hk (.inl hF)) hbig hl hfew).mono ?_
  rintro r w' ⟨rfl, F', G', k1, k2, k3, k4, k5, k6⟩
  refine ⟨rfl, _, ⟨p, F', G', rfl, rfl, k1, k2, k3⟩, k4, fun k hk => ?_⟩
  rcases hk with hk | hk
  · exact (k5 k hk).imp .inl id
  · exact (k6 k hk).imp .inr id
theorem pb_save (B g : Nat) (FB : Nat → Prop) (mv : Value) (s : SSt) (d : DSt) (t : List UInt8) (w : World) (h : PB B g FB mv d (some s) w) (hz : Szd d) (hB : B ≤ w.heap.size)
    (hn : t.length ≤ 1000000) (hbig : d.ws.length ≤ 400000) (hl : d.left ≤ 9223372036854775807) (hfew : 0 ≤ s.n ∧ s.n ≤ 999999) :
    Calls Try.prog 39 #[mv, .string (str t)] w (PBPost B w g FB mv (sSave t s d).2.1 (some (sSave t s d).1) (.returned (.int .i64 (sSave t s d).2.2))) := by
  obtain ⟨q, F, rfl, rfl, h1, h2, h3⟩ := h
  refine (rstSave_any B q g F s d t w h1 hz h2 h3 hB hn hbig hl hfew).mono ?_
  rintro r w' ⟨rfl, F', k1, k2, k3, k4, k5⟩
  refine ⟨rfl, _, ⟨q, F', rfl, rfl, k1, k2, k3⟩, k4, fun k hk => ?_⟩
  rcases hk with hk | hk
  · exact (k5 k hk).imp .inl id
  · exact .inl (.inr hk)

/-- A call that makes a store. -/
def PAMade (B : Nat) (w : World) (g : Nat) (FA : Nat → Prop) (d' : DSt) (e : Int) (t : List UInt8) (r : Ending) (w' : World) : Prop :=
  ∃ sv FA', r = .returned (.tuple #[sv, .int .i64 e]) ∧ PA B g FA' sv d' (madeOf e t) w' ∧ Mod FA w w' ∧ ∀ k, FA' k → FA k ∨ w.heap.size ≤ k
def PBMade (B : Nat) (w : World) (g : Nat) (FB : Nat → Prop) (d' : DSt) (e : Int) (t : List UInt8) (r : Ending) (w' : World) : Prop :=
  ∃ mv FB', r = .returned (.tuple #[mv, .int .i64 e]) ∧ PB B g FB' mv d' (madeOf e t) w' ∧ Mod FB w w' ∧ ∀ k, FB' k → FB k ∨ w.heap.size ≤ k

theorem StoMade.pa {B g : Nat} {F FA : Nat → Prop} {d' : DSt} {e : Int} {t : List UInt8} {w w' : World} {r : Ending} (h : StoMade B w g F d' e t r w') (hFA : ∀ k, F k → FA k) : PAMade B w g FA d' e t r w' := by
  obtain ⟨F', hd, hm, hF, ⟨rfl, p, G, rfl, hs, hG⟩ | ⟨h0, rfl⟩⟩ := h
  · refine ⟨_, fun k => F' k ∨ G k, rfl, ?_, hm.mono (fun k _ h => hFA k h), fun k hk => ?_⟩
    · unfold madeOf
      rw [if_pos rfl]
      exact ⟨p, F', G, rfl, rfl, hd, hs, fun k hk hk2 => (hG k hk2).2 hk⟩
    · rcases hk with hk | hk
      · exact (hF k hk).imp (hFA k) id
      · exact .inr (hG k hk).1
  · refine ⟨_, F', rfl, ?_, hm.mono (fun k _ h => hFA k h), fun k hk => (hF k hk).imp (hFA k) id⟩
    unfold madeOf
    rw [if_neg h0]
    exact ⟨rfl, hd⟩
theorem RstMade.pb {B g : Nat} {F FB : Nat → Prop} {d' : DSt} {e : Int} {t : List UInt8} {w w' : World} {r : Ending} (h : RstMade B w g F d' e t r w') (hFB : ∀ k, F k → FB k) : PBMade B w g FB d' e t r w' := by
  obtain ⟨F', hd, hm, hF, ⟨rfl, q, rfl, hs, hq, hqF⟩ | ⟨h0, rfl⟩⟩ := h
  · refine ⟨_, fun k => F' k ∨ k = q, rfl, ?_, hm.mono (fun k _ h => hFB k h), fun k hk => ?_⟩
    · unfold madeOf
      rw [if_pos rfl]
      exact ⟨q, F', rfl, rfl, hd, hs, hqF⟩
    · rcases hk with hk | rfl
      · exact (hF k hk).imp (hFB k) id
      · exact .inr hq
  · refine ⟨_, F', rfl, ?_, hm.mono (fun k _ h => hFB k h), fun k hk => (hF k hk).imp (hFB k) id⟩
    unfold madeOf
    rw [if_neg h0]
    exact ⟨rfl, hd⟩

/-- Both, apart from one another. -/
def Both5 (w0 : World) (g g' : Nat) (FA FB : Nat → Prop) (sv mv : Value) (d : DSt) (o : Option SSt) (wr : World) : Prop :=
  PA w0.heap.size g FA sv d o wr ∧ PB w0.heap.size g' FB mv d o wr ∧ (∀ k, FA k → ¬ FB k) ∧ Mod Nil w0 wr

theorem Both5.keep0 {w0 wr w1 : World} {g g' : Nat} {FA FB : Nat → Prop} {sv mv : Value} {d : DSt} {o : Option SSt} (h : Both5 w0 g g' FA FB sv mv d o wr) (hm : Mod Nil wr w1) : Both5 w0 g g' FA FB sv mv d o w1 :=
  ⟨h.1.keep hm (fun _ _ => id), h.2.1.keep hm (fun _ _ => id), h.2.2.1, h.2.2.2.trans hm⟩
/-- Behind the program's call, ahead of the document's. -/
theorem Both5.half {w0 wr w1 : World} {g g' : Nat} {FA FB FA1 : Nat → Prop} {sv mv sv1 : Value} {d d1 : DSt} {o o1 : Option SSt} (h : Both5 w0 g g' FA FB sv mv d o wr) (h1 : PA w0.heap.size g FA1 sv1 d1 o1 w1) (hm : Mod FA wr w1) (hF : ∀ k, FA1 k → FA k ∨ wr.heap.size ≤ k) :
    PB w0.heap.size g' FB mv d o w1 ∧ (∀ k, FA1 k → ¬ FB k) ∧ Mod Nil w0 w1 :=
  ⟨h.2.1.keep hm (fun k hk hkF => h.2.2.1 k hkF hk), fun k hk hk' => (hF k hk).elim (fun h' => h.2.2.1 k h' hk') (fun h' => by have := (h.2.1.lt k hk').2; omega), h.2.2.2.trans' hm (fun _ _ h => h) (fun k hk hF => absurd hk (by have := (h.1.lt k hF).1; omega))⟩
theorem both5_end {w0 w1 w2 : World} {g g' : Nat} {FA1 FB FB2 : Nat → Prop} {sv mv mv2 : Value} {d d2 : DSt} {o o2 : Option SSt} (h1 : PA w0.heap.size g FA1 sv d2 o2 w1) (hb : PB w0.heap.size g' FB mv d o w1) (hFF : ∀ k, FA1 k → ¬ FB k) (hm0 : Mod Nil w0 w1)
    (h2 : PB w0.heap.size g' FB2 mv2 d2 o2 w2) (hm : Mod FB w1 w2) (hF : ∀ k, FB2 k → FB k ∨ w1.heap.size ≤ k) : Both5 w0 g g' FA1 FB2 sv mv2 d2 o2 w2 :=
  ⟨h1.keep hm (fun k hk => hFF k hk), h2, fun k hk hk' => (hF k hk').elim (fun h' => hFF k hk h') (fun h' => by have := (h1.lt k hk).2; omega), hm0.trans' hm (fun _ _ h => h) (fun k hk hF => absurd hk (by have := (hb.lt k hF).1; omega))⟩
end Go.Proofs.Ytjmehamkpmimkaa

namespace Go.Proofs.Ytjmehamkpmimkaa
open Go.RowKit

theorem PA.nil {B g : Nat} {FA : Nat → Prop} {sv : Value} {d : DSt} {w : World} (h : PA B g FA sv d none w) : sv = .pointer none := h.1
theorem PB.nil {B g : Nat} {FB : Nat → Prop} {mv : Value} {d : DSt} {w : World} (h : PB B g FB mv d none w) : mv = .pointer none := h.1

set_option maxHeartbeats 12800000 in
set_option maxRecDepth 100000 in
theorem same5_any (B g g' : Nat) (FA FB : Nat → Prop) (sv mv : Value) (d : DSt) (o : Option SSt) (w : World) (ha : PA B g FA sv d o w) (hb : PB B g' FB mv d o w) (hlen : d.S.length ≤ 1000000) :
    Calls Try.prog 42 #[sv, mv] w fun r w' => r = .returned (.bool true) ∧ Mod Nil w w' := by
  cases o with
  | none =>
    obtain rfl := ha.nil
    obtain rfl := hb.nil
    clear ha hb
    go_enter Try.func42, Try.ntmps42
    go_wp2_with fail
    refine (save_nil none 0 0 _).mono ?_
    rintro r w1 ⟨rfl, rfl⟩
    go_wp2_with fail
    refine (text_nil _).mono ?_
    rintro r w1 ⟨rfl, rfl⟩
    go_wp2_with fail
    refine (stoRoom_nil _).mono ?_
    rintro r w1 ⟨rfl, rfl⟩
    go_wp2_with fail
    refine (broken_nil _).mono ?_
    rintro r w1 ⟨rfl, rfl⟩
    go_wp2_with fail
    refine (saves_nil _).mono ?_
    rintro r w1 ⟨rfl, rfl⟩
    go_wp2_with fail
    go_ret
    exact ⟨rfl, Mod.refl _ _⟩
  | some s =>
    obtain ⟨p, F, G, rfl, _, hd, hs, _⟩ := ha
    obtain ⟨q, F', rfl, _, hd', hs', _⟩ := hb
    have HD := Lib.hid hd
    have HS := Lib.hid hs
    have HD' := Lib.hid hd'
    have HS' := Lib.hid hs'
    have HC0 := Lib.hid (fun wa (hm : Mod Nil w wa) => show wa.cell? ⟨q, 0, none⟩ = some (.pointer (some ⟨g', 0, none⟩)) from (hs'.blk.keep hm id).cell 0)
    have HC1 := Lib.hid (fun wa (hm : Mod Nil w wa) => show wa.cell? ⟨q, 1, none⟩ = some (.string (str s.t)) from (hs'.blk.keep hm id).cell 1)
    have HC2 := Lib.hid (fun wa (hm : Mod Nil w wa) => show wa.cell? ⟨q, 2, none⟩ = some (.bool s.br) from (hs'.blk.keep hm id).cell 2)
    have HC3 := Lib.hid (fun wa (hm : Mod Nil w wa) => show wa.cell? ⟨q, 3, none⟩ = some (.int .i64 s.n) from (hs'.blk.keep hm id).cell 3)
    have HC4 := Lib.hid (fun wa (hm : Mod Nil w wa) => show wa.cell? ⟨g', 0, none⟩ = some (.string (str d.S)) from (hd'.keep0 hm).cell0)
    have hj := jRoom_bd ((d.S.length : Int) / 64)
    obtain ⟨b, hbr⟩ : ∃ b, b = s.br := ⟨_, rfl⟩
    obtain ⟨n, hn⟩ : ∃ n, n = s.n := ⟨_, rfl⟩
    rw [← hbr] at HC2
    rw [← hn] at HC3
    have HBR := Lib.hid hbr
    have HNN := Lib.hid hn
    obtain ⟨jr, hjr⟩ : ∃ jr, jr = jRoom ((d.S.length : Int) / 64) := ⟨_, rfl⟩
    rw [← hjr] at hj
    have HJR := Lib.hid hjr
    have HSEC := Lib.hid (show (d.secs : Int) = (d.S.length : Int) / 64 by unfold DSt.secs; omega)
    clear hd hs hd' hs' hbr hn hjr
    go_enter Try.func42, Try.ntmps42
    go_wp2_with fail
    refine wp_flow2 (by kernel_rfl) (R := Mod Nil)
      [(42, .is (.pointer (some ⟨p, 0, none⟩))), (43, ⟨IsSl s.t.length (s.t.map bv), fun _ _ _ h k => h.keep0 k⟩), (44, .is (.string (str s.t))), (45, .is (.pointer (some ⟨q, 0, none⟩))), (46, .is (.pointer (some ⟨q, 0, none⟩))), (47, .is (.pointer (some ⟨q, 1, none⟩))), (48, .is (.string (str s.t))), (49, .is (.bool true)), (50, .is (.bool true)),
      (51, .is (.pointer (some ⟨p, 0, none⟩))), (52, .is (.bool b)), (53, .is (.pointer (some ⟨q, 0, none⟩))), (54, .is (.pointer (some ⟨q, 0, none⟩))), (55, .is (.pointer (some ⟨q, 2, none⟩))), (56, .is (.bool b)), (57, .is (.bool true)), (58, .is (.bool true)), (59, .is (.bool true)),
      (60, .is (.pointer (some ⟨p, 0, none⟩))), (61, .is (.int .i64 n)), (62, .is (.pointer (some ⟨q, 0, none⟩))), (63, .is (.pointer (some ⟨q, 0, none⟩))), (64, .is (.pointer (some ⟨q, 3, none⟩))), (65, .is (.int .i64 n)), (66, .is (.bool true)), (67, .is (.bool true)), (68, .is (.bool true)),
      (69, .is (.pointer (some ⟨p, 0, none⟩))), (70, .is (.int .i64 (jr - 4))), (71, .is (.pointer (some ⟨q, 0, none⟩))), (72, .is (.pointer (some ⟨q, 0, none⟩))), (73, .is (.pointer (some ⟨q, 0, none⟩))), (74, .is (.pointer (some ⟨g', 0, none⟩))), (75, .is (.pointer (some ⟨g', 0, none⟩))), (76, .is (.pointer (some ⟨g', 0, none⟩))), (77, .is (.string (str d.S))), (78, .is (.int .i64 d.S.length)), (79, .is (.int .i64 ((d.S.length : Int) / 64))), (80, .is (.int .i64 jr)), (81, .is (.int .i64 (jr - 4))), (82, .is (.bool true)), (83, .is (.bool true)), (4, .is (.bool true))]
      (by kernel_rfl) (Mod.refl Nil) mod_trans ?fops ?ffin
    case fops =>
      refine ⟨?_, ?_, ?_, ?_, ?_, ?_, ?_, ?_, ?_, ?_, ?_, ?_, ?_, ?_, ?_, ?_, ?_, ?_, ?_, ?_, ?_, ?_, ?_, ?_, ?_, ?_, ?_, ?_, ?_, ?_, ?_, ?_, ?_, ?_, ?_, ?_, ?_, ?_, ?_, ?_, ?_, ?_, ?_, trivial⟩
      all_goals intro a wa hR hk
      all_goals simp [Oper.looksAt, Op.operands, Call.operands, Seen, slot, St.is, Act.eval] at hk
      all_goals try refine ⟨fun _ => ?_, fun hg => (hg (by simp [Act.eval, hk])).elim⟩
      all_goals have hM := (Mod.refl Nil w).drew.trans hR
      all_goals have hc0 := HC0.out wa hM
      all_goals have hc1 := HC1.out wa hM
      all_goals have hc2 := HC2.out wa hM
      all_goals have hc3 := HC3.out wa hM
      all_goals have hc4 := HC4.out wa hM
      all_goals have hsz := str_size d.S
      all_goals try (go_wp2_with fail; exact leaves_of (Mod.refl _ _) rfl)
      · go_wp2_with fail
        refine (text_any B p g G s wa (HS.out.keep0 hM)).mono ?_
        rintro r w5 ⟨A5, c5, rfl, ho5, hm5⟩
        exact leaves_of hm5 (IsSl.of_own ho5)
      · obtain ⟨A', c', hg, _, _, hln, hr⟩ := hk
        rw [List.length_map] at hln
        have kb := conv_bytes hr hln c'
        clear hr hln
        go_wp2_with fail
        exact leaves_of (Mod.refl _ _) rfl
      · go_wp2_with fail
        refine (broken_any B p g G s wa (HS.out.keep0 hM)).mono ?_
        rintro r w5 ⟨rfl, rfl⟩
        rw [← HBR.out]
        exact leaves_of (Mod.refl _ _) rfl
      · go_wp2_with fail
        refine (saves_any B p g G s wa (HS.out.keep0 hM)).mono ?_
        rintro r w5 ⟨rfl, rfl⟩
        rw [← HNN.out]
        exact leaves_of (Mod.refl _ _) rfl
      · go_wp2_with fail
        refine (stoRoom_any B p g F G s d wa (HD.out.keep0 hM) (HS.out.keep0 hM)).mono ?_
        rintro r w5 ⟨rfl, rfl⟩
        rw [HSEC.out, ← HJR.out]
        exact leaves_of (Mod.refl _ _) rfl
      · go_wp2_with fail
        refine (refRoom4_any _ _).mono ?_
        rintro r w5 ⟨rfl, rfl⟩
        rw [← HJR.out]
        exact leaves_of (Mod.refl _ _) rfl
    case ffin =>
      intro w9 vs hR hV
      simp [HoldsAll, St.is] at hV
      obtain ⟨e42, ⟨A2, c2, e43, _⟩, e44, e45, e46, e47, e48, e49, e50, e51, e52, e53, e54, e55, e56, e57, e58, e59, e60, e61, e62, e63, e64, e65, e66, e67, e68, e69, e70, e71, e72, e73, e74, e75, e76, e77, e78, e79, e80, e81, e82, e83, e4⟩ := hV
      simp only [List.map_cons, List.map_nil, List.foldl_cons, List.foldl_nil, Act.put, e42, e43, e44, e45, e46, e47, e48, e49, e50, e51, e52, e53, e54, e55, e56, e57, e58, e59, e60, e61, e62, e63, e64, e65, e66, e67, e68, e69, e70, e71, e72, e73, e74, e75, e76, e77, e78, e79, e80, e81, e82, e83, e4, List.setIfInBounds_toArray, List.set_cons_succ, List.set_cons_zero]
      clear e42 e43 e44 e45 e46 e47 e48 e49 e50 e51 e52 e53 e54 e55 e56 e57 e58 e59 e60 e61 e62 e63 e64 e65 e66 e67 e68 e69 e70 e71 e72 e73 e74 e75 e76 e77 e78 e79 e80 e81 e82 e83 e4
      have HM9 := Lib.hid ((Mod.refl Nil w).drew.trans hR)
      clear hR
      go_wp2_with fail
      go_ret
      exact ⟨rfl, HM9.out⟩

end Go.Proofs.Ytjmehamkpmimkaa
