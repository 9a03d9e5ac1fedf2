/- The walk of the law OctetCuts: it answers true, and turns nothing of old. -/
import Derived.Test.YtdllafmponmkmaaRdrX
import Derived.Test.YtdllafmponmkmaaOctAw
import Derived.Test.YtdllafmponmkmaaCrcX
namespace Go.Proofs.Ytdllafmponmkmaa
open Go.RowKit

theorem Rd.low_ {w : World} {A : Option Addr} {xs : List Value} (h : Rd All w A xs) : Rd (fun b => b < w.heap.size) w A xs := h.mono (fun _ hb _ => hb)

/-- Two readers that lie apart, and behind a block. -/
def Apart (B g g' : Nat) (S S' : Nat → Prop) : Prop := (∀ k, (S k ∨ k = g) → ¬ (S' k ∨ k = g')) ∧ ∀ k, (S k ∨ k = g) ∨ (S' k ∨ k = g') → B ≤ k

/-- Where the law OctetCuts stands. -/
def CutsAt (w0 : World) (g g' : Nat) (S S' : Nat → Prop) (tail : List UInt8) (K : Nat) (wr : World) : Prop :=
  ∃ ls, RdrAt S wr g (ls ++ tail, 0) ∧ RdrAt S' wr g' (ls, 0) ∧ ls.length ≤ K ∧ Mod Nil w0 wr
/-- Where it stands behind a field. -/
def CutsDone (w0 : World) (g g' : Nat) (S S' : Nat → Prop) (tail : List UInt8) (K : Nat) (v : Value) (wr : World) : Prop :=
  ∃ (s1 s2 : RSt) (b : Bool), v = .bool b ∧ RdrAt S wr g s1 ∧ RdrAt S' wr g' s2 ∧ s1.1.length ≤ 1000 ∧ s2.1.length ≤ K ∧ Mod Nil w0 wr ∧ (s2.2 = 0 → b = true ∧ s1 = (s2.1 ++ tail, 0))

theorem two_posts {w0 wr w1 w2 : World} {g g' : Nat} {S S' : Nat → Prop} {s1 s2 : RSt} (hap : Apart w0.heap.size g g' S S') (hm : Mod Nil w0 wr)
    (h1 : RdrAt S w1 g s1) (hm1 : Mod (fun k => k = g) wr w1) (h2 : RdrAt S' w2 g' s2) (hm2 : Mod (fun k => k = g') w1 w2) :
    RdrAt S w2 g s1 ∧ RdrAt S' w2 g' s2 ∧ Mod Nil w0 w2 := by
  refine ⟨h1.keep hm2 (fun k hk hkg => hap.1 k hk (.inr hkg)), h2, ?_⟩
  have hg := hap.2 g (.inl (.inr rfl))
  have hg' := hap.2 g' (.inr (.inr rfl))
  exact (hm.trans' hm1 (fun _ _ h => h) (fun k hk hkg => by omega)).trans' hm2 (fun _ _ h => h) (fun k hk hkg => by omega)

set_option maxHeartbeats 6400000 in
set_option maxRecDepth 100000 in
theorem octetCuts_walk (A0 : Option Addr) (n0 c0 : Nat) (l0 : List UInt8) (A1 : Option Addr) (n1 c1 : Nat) (l1 : List UInt8) (x : Int) (w : World) (hl0 : l0.length = n0) (hc0 : n0 ≤ c0) (hm0 : c0 ≤ maxLen) (hr0 : Rd All w A0 (l0.map bv)) (hl1 : l1.length = n1) (hr1 : Rd All w A1 (l1.map bv)) :
    Calls Try.prog 11 #[.slice A0 n0 c0, .slice A1 n1 c1, .int .i64 x] w fun r w' => r = .returned (.bool true) ∧ Mod Nil w w' := by
  have HR0 := Lib.hid hr0.low_
  have HR1 := Lib.hid hr1.low_
  have HL0 := Lib.hid hl0
  have HL1 := Lib.hid hl1
  unfold maxLen at hm0
  clear hr0 hr1 hl0 hl1
  by_cases h4 : 400 < n0
  · go_enter Try.func11, Try.ntmps11
    go_wp2_with fail
    refine (awake1_any _).mono ?_
    rintro r w1 ⟨rfl, hm1⟩
    have HM1 := Lib.hid hm1
    clear hm1
    go_wp2_with fail
    refine (awake1_any _).mono ?_
    rintro r w2 ⟨rfl, hm2⟩
    have HM2 := Lib.hid hm2
    clear hm2
    go_wp2_with fail
    go_ret
    exact ⟨rfl, HM1.out.trans HM2.out⟩
  by_cases h2 : 20 < n1
  · go_enter Try.func11, Try.ntmps11
    go_wp2_with fail
    refine (awake1_any _).mono ?_
    rintro r w1 ⟨rfl, hm1⟩
    have HM1 := Lib.hid hm1
    clear hm1
    go_wp2_with fail
    refine (awake1_any _).mono ?_
    rintro r w2 ⟨rfl, hm2⟩
    have HM2 := Lib.hid hm2
    clear hm2
    go_wp2_with fail
    go_ret
    exact ⟨rfl, HM1.out.trans HM2.out⟩
  go_enter Try.func11, Try.ntmps11
  go_wp2_with fail
  refine (awake1_any _).mono ?_
  rintro r w0 ⟨rfl, hm1⟩
  have HM1 := Lib.hid hm1
  clear hm1
  go_wp2_with fail
  refine (rest_any x ((n0 : Int) + 1) _ (by omega) (by omega)).mono ?_
  rintro r w2 ⟨rfl, rfl⟩
  obtain ⟨K, hK⟩ : ∃ K : Nat, x % ((n0 : Int) + 1) = (K : Int) := Int.eq_ofNat_of_zero_le (Int.emod_nonneg _ (by omega))
  have hKn : K ≤ n0 := by have := Int.emod_lt_of_pos x (show (0 : Int) < (n0 : Int) + 1 by omega); omega
  rw [hK]
  clear hK
  have HT := Lib.hid (show (l0.take K).length = K by rw [List.length_take, HL0.out]; omega)
  have hKc : K ≤ c0 := by omega
  go_upto_region 4 with fail
  go_cut [8, 9] (fun rv sv wx => ∃ S g S' g', rv = .pointer (some ⟨g, 0, none⟩) ∧ sv = .pointer (some ⟨g', 0, none⟩) ∧ RdrAt S wx g (l0, 0) ∧ RdrAt S' wx g' (l0.take K, 0) ∧ Apart w0.heap.size g g' S S' ∧ Mod Nil w0 wx)
  case first =>
    go_region_law (first
      | (go_simp
         go_at_call 62
         refine (ropen_any A0 n0 c0 l0 _ HL0.out (by omega) ((HR0.out.keep0 (HM1.out.drew)).mono (fun _ _ _ => trivial))).mono ?_
         rintro r w4 ⟨S, g, rfl, hd4, hs4, hm4⟩
         have HD4 := Lib.hid hd4
         have HS4 := Lib.hid hs4
         have HM4 := Lib.hid (((Mod.refl Nil w0).drew).trans hm4)
         clear hd4 hs4 hm4)
      | (go_simp
         go_at_call 62
         refine (ropen_any A0 K c0 (l0.take K) _ HT.out (by omega) (by rw [List.map_take]; exact (((HR0.out.keep0 (HM1.out.trans HM4.out)).mono (fun _ _ _ => trivial)).take K))).mono ?_
         rintro r w5 ⟨S', g', rfl, hd5, hs5, hm5⟩
         have HD5 := Lib.hid hd5
         have HS5 := Lib.hid hs5
         have HM5 := Lib.hid hm5
         clear hd5 hs5 hm5))
    all_goals
      go_simp
      go_wp2_with fail
      go_meet
      case rel =>
        refine ⟨S, g, S', g', rfl, rfl, HD4.out.keep0 HM5.out, HD5.out, ⟨fun k hk hk' => ?_, fun k hk => ?_⟩, HM4.out.trans HM5.out⟩
        · have := HS4.out k hk; have := HS5.out k hk'; omega
        · have := HM4.out.size
          rcases hk with hk | hk
          · exact (HS4.out k hk).1
          · have := HS5.out k hk; omega
  case rest =>
    obtain ⟨S, g, S', g', rfl, rfl, hd, hd', hap, hm⟩ := hcut
    have HAP := Lib.hid hap
    have HST := Lib.hid (show CutsAt w0 g g' S S' (l0.drop K) K wc from ⟨l0.take K, by rw [List.take_append_drop]; exact hd, hd', Nat.le_of_eq HT.out, hm⟩)
    have HTL := Lib.hid (show (l0.drop K).length = n0 - K by rw [List.length_drop, HL0.out])
    clear hd hd' hap hm
    go_wp2_with fail
    go_loopw [10] (fun iv wr => ∃ i : Nat, i ≤ n1 ∧ iv = .int .i64 i ∧ CutsAt w0 g g' S S' (l0.drop K) K wr) (fun v _ => n1 - (intOf v).toNat)
    case atStart => exact ⟨0, Nat.zero_le _, rfl, HST.out⟩
    case round =>
      obtain ⟨i, hi, rfl, ⟨ls, hd, hd', hlk, hm⟩⟩ := hrel
      have HM := Lib.hid hm
      have HD := Lib.hid hd
      have HD' := Lib.hid hd'
      clear hd hd' hm
      by_cases hlt : i < n1
      · obtain ⟨u, hu⟩ : ∃ u, l1[i]? = some u := ⟨_, List.getElem?_eq_getElem (by rw [HL1.out]; exact hlt)⟩
        obtain ⟨ad, rfl, _, hadl, hc⟩ := (HR1.out.keep0 (HM1.out.trans HM.out)).at_ (k := i) (u := bv u) (by rw [List.getElem?_map, hu]; rfl)
        unfold bv at hc
        have hu8 := u.toNat_lt
        clear hu
        go_upto_block 2 with fail
        obtain ⟨q, hq⟩ : ∃ q : Int, q = (u.toNat : Int) % 3 := ⟨_, rfl⟩
        rw [← hq]
        have hq3 : q = 0 ∨ q = 1 ∨ q = 2 := by omega
        clear hq
        go_cut [11] (fun v wx => CutsDone w0 g g' S S' (l0.drop K) K v wx)
        case first =>
          rcases hq3 with rfl | rfl | rfl
          · skip
            go_wp2_with fail
            refine (rnum_any S g (ls ++ l0.drop K, 0) _ HD.out).mono ?_
            rintro r w3 ⟨rfl, hd3, hm3⟩
            have HD3 := Lib.hid hd3
            have HM3 := Lib.hid hm3
            have HD3' := Lib.hid (HD'.out.keep hm3 (fun k hk hkg => HAP.out.1 k (.inr hkg) hk))
            clear hd3 hm3
            go_wp2_with fail
            refine (rnum_any S' g' (ls, 0) _ HD3'.out).mono ?_
            rintro r w4 ⟨rfl, hd4, hm4⟩
            have HTP := Lib.hid (two_posts HAP.out HM.out HD3.out HM3.out hd4 hm4)
            clear hd4 hm4
            go_wp2_with fail
            go_meet
            case rel =>
              refine ⟨_, _, _, rfl, HTP.out.1, HTP.out.2.1, ?_, Nat.le_trans (rNum_len (ls, 0)) hlk, HTP.out.2.2, fun he => ?_⟩
              · have := rNum_len (ls ++ l0.drop K, 0)
                have h3 : (ls ++ l0.drop K).length ≤ 1000 := by rw [List.length_append, HTL.out]; omega
                exact Nat.le_trans this h3
              · rw [rNum_app ls (l0.drop K) he]
                exact ⟨by simp, rfl⟩
          · skip
            go_wp2_with fail
            refine (rint_any S g (ls ++ l0.drop K, 0) _ HD.out).mono ?_
            rintro r w3 ⟨rfl, hd3, hm3⟩
            have HD3 := Lib.hid hd3
            have HM3 := Lib.hid hm3
            have HD3' := Lib.hid (HD'.out.keep hm3 (fun k hk hkg => HAP.out.1 k (.inr hkg) hk))
            clear hd3 hm3
            go_wp2_with fail
            refine (rint_any S' g' (ls, 0) _ HD3'.out).mono ?_
            rintro r w4 ⟨rfl, hd4, hm4⟩
            have HTP := Lib.hid (two_posts HAP.out HM.out HD3.out HM3.out hd4 hm4)
            clear hd4 hm4
            go_wp2_with fail
            go_meet
            case rel =>
              refine ⟨_, _, _, rfl, HTP.out.1, HTP.out.2.1, ?_, Nat.le_trans (rInt_len (ls, 0)) hlk, HTP.out.2.2, fun he => ?_⟩
              · have := rInt_len (ls ++ l0.drop K, 0)
                have h3 : (ls ++ l0.drop K).length ≤ 1000 := by rw [List.length_append, HTL.out]; omega
                exact Nat.le_trans this h3
              · rw [rInt_app ls (l0.drop K) he]
                exact ⟨by simp, rfl⟩
          · skip
            go_wp2_with fail
            refine (rtext_any S g (ls ++ l0.drop K, 0) _ HD.out).mono ?_
            rintro r w3 ⟨rfl, hd3, hm3⟩
            have HD3 := Lib.hid hd3
            have HM3 := Lib.hid hm3
            have HD3' := Lib.hid (HD'.out.keep hm3 (fun k hk hkg => HAP.out.1 k (.inr hkg) hk))
            clear hd3 hm3
            go_wp2_with fail
            refine (rtext_any S' g' (ls, 0) _ HD3'.out).mono ?_
            rintro r w4 ⟨rfl, hd4, hm4⟩
            have HTP := Lib.hid (two_posts HAP.out HM.out HD3.out HM3.out hd4 hm4)
            clear hd4 hm4
            go_wp2_with fail
            go_meet
            case rel =>
              refine ⟨_, _, _, rfl, HTP.out.1, HTP.out.2.1, ?_, Nat.le_trans (rText_len (ls, 0)) hlk, HTP.out.2.2, fun he => ?_⟩
              · have := rText_len (ls ++ l0.drop K, 0)
                have h3 : (ls ++ l0.drop K).length ≤ 1000 := by rw [List.length_append, HTL.out]; omega
                exact Nat.le_trans this h3
              · rw [rText_app ls (l0.drop K) he]
                exact ⟨by simp, rfl⟩
        case rest =>
          obtain ⟨s1, s2, b, rfl, hd, hd', h1k, h2k, hm, hok⟩ := hcut
          have HM2 := Lib.hid hm
          have HE := Lib.hid hd
          have HE' := Lib.hid hd'
          clear hd hd' hm
          by_cases he : s2.2 = 0
          · obtain ⟨rfl, rfl⟩ := hok he
            obtain ⟨l2, e2⟩ := s2
            obtain rfl : e2 = 0 := he
            replace h2k : l2.length ≤ K := h2k
            obtain ⟨T, hT⟩ : ∃ T, T = (l2 ++ l0.drop K).length := ⟨_, rfl⟩
            have hT2 : T - l2.length = n0 - K ∧ l2.length ≤ T ∧ T ≤ 1000 := by rw [hT, List.length_append, HTL.out]; omega
            have HTT := Lib.hid hT
            obtain ⟨hT3, hT4, hT5⟩ := hT2
            have hne : ((T : Int) - (l2.length : Int) != (n0 : Int) - (K : Int)) = false := by simp; omega
            have HT3 := Lib.hid hT3
            clear hT hT3
            clear hok
            go_wp2_with fail
            refine (rerr_any S' g' (l2, 0) _ HE'.out).mono ?_
            rintro r w3 ⟨rfl, rfl⟩
            go_wp2_with fail
            refine (rerr_any S g (l2 ++ l0.drop K, 0) _ HE.out).mono ?_
            rintro r w3 ⟨rfl, rfl⟩
            go_wp2_with fail
            refine (rleft_any S g (l2 ++ l0.drop K, 0) _ HE.out).mono ?_
            rintro r w3 ⟨rfl, rfl⟩
            rw [← HTT.out]
            go_wp2_with fail
            refine (rleft_any S' g' (l2, 0) _ HE'.out).mono ?_
            rintro r w3 ⟨rfl, rfl⟩
            go_wp2_with fail
            go_roundw
            case rel => exact ⟨i + 1, by omega, by go_num, l2, HE.out, HE'.out, h2k, HM2.out⟩
            case measure => simp [intOf] <;> omega
          · have he0 : (s2.2 == 0) = false := by simp [he]
            have HEN := Lib.hid he
            clear he hok
            go_wp2_with fail
            refine (rerr_any S' g' s2 _ HE'.out).mono ?_
            rintro r w3 ⟨rfl, rfl⟩
            go_wp2_with fail
            refine (rleft_any S' g' s2 _ HE'.out).mono ?_
            rintro r w3 ⟨rfl, rfl⟩
            go_wp2_with fail
            refine (rleft_any S g s1 _ HE.out).mono ?_
            rintro r w3 ⟨rfl, rfl⟩
            go_wp2_with fail
            go_ret
            exact ⟨rfl, HM1.out.trans HM2.out⟩
      · go_wp2_with fail
        go_ret
        exact ⟨rfl, HM1.out.trans HM.out⟩
end Go.Proofs.Ytdllafmponmkmaa
