/- Contracts of the document's journal: Get. -/
import Derived.Test.YtjmehamkpmimkaaRjnZ
import Derived.Test.YtjmehamkpmimkaaRrdX
namespace Go.Proofs.Ytjmehamkpmimkaa
open Go.RowKit

/-- The first field, as the document's reader sees it in what follows the first area. -/
theorem rjget_num {I L : List UInt8} {a : Nat} {H : List UInt8} (hL : L = I.drop (64 + 64 * a)) (hH : H = hmOf a I) (ha : 1 ≤ a) (hl : 64 + 64 * a + 64 * a ≤ I.length) :
    L.length = I.length - (64 + 64 * a) ∧ (2147483647 < beVal (L.take 4) → rNum (L, 0) = (0, (L, 11)) ∧ rNum (H, 0) = (0, (H, 11))) ∧
    (beVal (L.take 4) ≤ 2147483647 → rNum (L, 0) = (beVal (L.take 4), (L.drop 4, 0)) ∧ rNum (H, 0) = (beVal (L.take 4), (H.drop 4, 0))) ∧ ∀ V, 4 + V ≤ 64 * a → (H.drop 4).take V = (L.drop 4).take V := by
  have hH' : H = L.take (64 * a) := by rw [hH, hL]; rfl
  have hLl : L.length = I.length - (64 + 64 * a) := by rw [hL, List.length_drop]
  have hHl : H.length = 64 * a := by rw [hH', List.length_take]; omega
  have ht : H.take 4 = L.take 4 := by rw [hH', List.take_take, Nat.min_eq_left (by omega)]
  refine ⟨hLl, ?_, ?_, ?_⟩
  · intro h
    constructor
    · unfold rNum; rw [if_pos rfl, if_neg (by show ¬ L.length < 4; omega), if_pos h]
    · unfold rNum; rw [if_pos rfl, if_neg (by show ¬ H.length < 4; omega), if_pos (by show 2147483647 < beVal (H.take 4); rw [ht]; exact h)]
  · intro h
    constructor
    · unfold rNum; rw [if_pos rfl, if_neg (by show ¬ L.length < 4; omega), if_neg (by show ¬ 2147483647 < beVal (L.take 4); omega)]
    · unfold rNum; rw [if_pos rfl, if_neg (by show ¬ H.length < 4; omega), if_neg (by show ¬ 2147483647 < beVal (H.take 4); rw [ht]; omega)]
      show (beVal (H.take 4), (H.drop 4, 0)) = _
      rw [ht]
  · intro V hV
    rw [hH', List.drop_take, List.take_take, Nat.min_eq_left (by omega)]

set_option maxHeartbeats 3200000 in
set_option maxRecDepth 100000 in
theorem rjget_any (B g : Nat) (F : Nat → Prop) (s : DSt) (w : World) (h : RdkAt B w g F s) (hz : Szd s) (hbig : s.ws.length ≤ 1000000) :
    Calls Try.prog 30 #[.pointer (some ⟨g, 0, none⟩)] w fun r w' => r = .returned (.tuple #[.string (str (jGet s).1), .int .i64 (jGet s).2]) ∧ Mod Nil w w' := by
  have HD := Lib.hid h
  have hc0 := h.cell0
  have hs := str_size s.S
  obtain ⟨h1, h2, h3, hok⟩ := hz
  have HZ := Lib.hid (show Szd s from ⟨h1, h2, h3, hok⟩)
  have hil := hok.img
  have his := str_size s.img
  rw [hil] at his
  obtain ⟨M, hM⟩ : ∃ M, M = s.secs := ⟨_, rfl⟩
  obtain ⟨N, hN⟩ : ∃ N, N = s.S.length := ⟨_, rfl⟩
  have HR := Lib.hid (fun w => refRoom4_any (M : Int) w)
  rw [← hM] at h1 h2 h3
  rw [← hN] at hs h3 his
  have ht1 : Int.tdiv (N : Int) 64 = (M : Int) := by rw [Int.tdiv_eq_ediv_of_nonneg (by omega)]; omega
  have hN9 : N ≤ 4194304 := by omega
  rcases room_cases (s := s) (by omega) (by omega) with ⟨hr, h4⟩ | ⟨hr, h4, ha1, ha2, ha3⟩
  · have HG := Lib.hid (show jGet s = ([], 2) by unfold jGet; rw [if_pos (by rw [hr]; decide)])
    rw [hM, hr, ← hM] at HR
    clear h hok h3 hr hM hN hil his h4 h1
    rw [HG.out]
    go_enter Try.func30, Try.ntmps30
    go_wp2_with fail
    refine (HR.out _).mono ?_
    rintro r w1 ⟨rfl, rfl⟩
    go_wp2_with fail
    go_ret2
    exact ⟨rfl, Mod.refl _ _⟩
  · have HA := Lib.hid (fun w' (hm : Mod Nil w w') => rarea_any B g F s w' (HD.out.keep0 hm) HZ.out)
    have HIM := Lib.hid (rdkImage_any B g F s w h hbig)
    obtain ⟨a, ha⟩ : ∃ a, a = jA s.secs := ⟨_, rfl⟩
    have hRn : ¬ jRoom s.secs < 0 := by rw [hr]; omega
    rw [← ha] at HA hr ha1 ha2 ha3
    obtain ⟨R, hR⟩ : ∃ R : Nat, R = 64 * a - 12 := ⟨_, rfl⟩
    rw [← hR] at hr
    rw [hM, hr, ← hM] at HR
    obtain ⟨I, hI⟩ : ∃ I, I = s.img := ⟨_, rfl⟩
    rw [← hI] at HIM his hil
    obtain ⟨L, hL⟩ : ∃ L, L = I.drop (64 + 64 * a) := ⟨_, rfl⟩
    obtain ⟨Hm, hH⟩ : ∃ Hm, Hm = hmOf a I := ⟨_, rfl⟩
    obtain ⟨q1, q2, q3, q4⟩ := rjget_num hL hH ha1 (by omega)
    obtain ⟨V, hV⟩ : ∃ V, V = beVal (L.take 4) := ⟨_, rfl⟩
    rw [← hV] at q2 q3
    obtain ⟨E, hE⟩ : ∃ E, E = 64 + 64 * a := ⟨_, rfl⟩
    have hLs : (str L).size = N - E := by rw [str_size, q1, hil]; omega
    have hx1 : (str I).extract E N = str L := by rw [str_drop I E N (by omega), hL, hE]
    have hE1 : 64 + 64 * (a : Int) = (E : Int) := by omega
    have hE2 : IntKind.i64.wrap (64 * (a : Int)) = 64 * (a : Int) := IntWalk.i64_in _ (by omega)
    have hEN : E ≤ N := by omega
    have hEM : 12 + R ≤ N - E := by omega
    have hR9 : R ≤ 3000000 := by omega
    have hRV : ∀ V, V ≤ R → (Hm.drop 4).take V = (L.drop 4).take V := fun V hv => q4 V (by omega)
    have HL := Lib.hid (show L.length ≤ 1000000000 by omega)
    have hL4 : (str (L.drop 4)).size = N - E - 4 := by rw [str_size, List.length_drop, ← str_size, hLs]
    have HG := Lib.hid (show jGet s = if (rNum (Hm, 0)).2.2 = 0 ∧ ((rNum (Hm, 0)).1 : Int) ≤ (R : Int) then ((Hm.drop 4).take (rNum (Hm, 0)).1, 0) else ([], 11) by unfold jGet; rw [if_neg hRn, ← ha, ← hI, ← hH, hr])
    have HCN := Lib.hid (fun g' w' (hx : RrdAt w' g' (L, 0)) => rrnum_any g' (L, 0) w' hx HL.out)
    clear h hok hr hRn ha hR hM hN hI hil h1 h3 hE ha3 h4 hL hH q1 q4 hV HL
    by_cases hv : 2147483647 < V
    · obtain ⟨e1, e2⟩ := q2 hv
      rw [e2] at HG
      rw [e1] at HCN
      have HG2 := Lib.hid (show jGet s = ([], 11) by rw [HG.out]; exact if_neg (fun h => absurd (show (11 : Int) = 0 from h.1) (by decide)))
      clear hv e1 e2 q2 q3 hRV
      rw [HG2.out]
      go_enter Try.func30, Try.ntmps30
      go_wp2_with fail
      refine (HR.out _).mono ?_
      rintro r w1 ⟨rfl, rfl⟩
      go_wp2_with fail
      refine HIM.out.mono ?_
      rintro r w1 ⟨rfl, hm1⟩
      have HM1 := Lib.hid hm1
      clear hm1
      go_wp2_with fail
      refine (HA.out _ HM1.out).mono ?_
      rintro r w2 ⟨rfl, rfl⟩
      have hz1 := HM1.out.size
      go_wp2_with fail
      refine (HCN.out w1.heap.size _ (Blk.new _ _ _)).mono ?_
      rintro r w3 ⟨rfl, hd3, hm3⟩
      have hy0 := Blk.cell hd3 0
      have hy1 := Blk.cell hd3 1
      have HM3 := Lib.hid (show Mod Nil w w3 from (HM1.out.alloc _).trans' hm3 (fun _ _ h => h) (fun i hi h => by omega))
      clear hd3 hm3
      go_wp2_with fail
      go_ret2
      exact ⟨rfl, HM3.out⟩
    · obtain ⟨e1, e2⟩ := q3 (by omega)
      rw [e2] at HG
      rw [e1] at HCN
      by_cases hvr : V ≤ R
      · have HG2 := Lib.hid (show jGet s = ((L.drop 4).take V, 0) by rw [HG.out, ← hRV V hvr]; exact if_pos ⟨rfl, by show (V : Int) ≤ _; omega⟩)
        have hx2 : (str (L.drop 4)).extract 0 V = str ((L.drop 4).take V) := str_take _ _
        have hVN : V ≤ N - E - 4 := by omega
        clear e1 e2 q2 q3 hRV hv
        rw [HG2.out]
        go_enter Try.func30, Try.ntmps30
        go_wp2_with fail
        refine (HR.out _).mono ?_
        rintro r w1 ⟨rfl, rfl⟩
        go_wp2_with fail
        refine HIM.out.mono ?_
        rintro r w1 ⟨rfl, hm1⟩
        have HM1 := Lib.hid hm1
        clear hm1
        go_wp2_with fail
        refine (HA.out _ HM1.out).mono ?_
        rintro r w2 ⟨rfl, rfl⟩
        have hz1 := HM1.out.size
        go_wp2_with fail
        refine (HCN.out w1.heap.size _ (Blk.new _ _ _)).mono ?_
        rintro r w3 ⟨rfl, hd3, hm3⟩
        have hy0 := Blk.cell hd3 0
        have hy1 := Blk.cell hd3 1
        have HM3 := Lib.hid (show Mod Nil w w3 from (HM1.out.alloc _).trans' hm3 (fun _ _ h => h) (fun i hi h => by omega))
        clear hd3 hm3
        go_wp2_with fail
        go_ret2
        exact ⟨rfl, HM3.out⟩
      · have HG2 := Lib.hid (show jGet s = ([], 11) by rw [HG.out]; exact if_neg (fun h => absurd h.2 (by show ¬ (V : Int) ≤ _; omega)))
        clear e1 e2 q2 q3 hRV hv
        rw [HG2.out]
        go_enter Try.func30, Try.ntmps30
        go_wp2_with fail
        refine (HR.out _).mono ?_
        rintro r w1 ⟨rfl, rfl⟩
        go_wp2_with fail
        refine HIM.out.mono ?_
        rintro r w1 ⟨rfl, hm1⟩
        have HM1 := Lib.hid hm1
        clear hm1
        go_wp2_with fail
        refine (HA.out _ HM1.out).mono ?_
        rintro r w2 ⟨rfl, rfl⟩
        have hz1 := HM1.out.size
        go_wp2_with fail
        refine (HCN.out w1.heap.size _ (Blk.new _ _ _)).mono ?_
        rintro r w3 ⟨rfl, hd3, hm3⟩
        have hy0 := Blk.cell hd3 0
        have hy1 := Blk.cell hd3 1
        have HM3 := Lib.hid (show Mod Nil w w3 from (HM1.out.alloc _).trans' hm3 (fun _ _ h => h) (fun i hi h => by omega))
        clear hd3 hm3
        go_wp2_with fail
        go_ret2
        exact ⟨rfl, HM3.out⟩

end Go.Proofs.Ytjmehamkpmimkaa
