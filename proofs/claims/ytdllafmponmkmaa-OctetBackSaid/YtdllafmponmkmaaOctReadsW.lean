/- The walk of the law OctetReads: it answers true, and turns nothing of old. -/
import Derived.Test.YtdllafmponmkmaaRrdX
import Derived.Test.YtdllafmponmkmaaOctAw
import Derived.Test.YtdllafmponmkmaaCrcX
namespace Go.Proofs.Ytdllafmponmkmaa
open Go.RowKit

theorem Rd.low1 {w : World} {A : Option Addr} {xs : List Value} (h : Rd All w A xs) : Rd (fun b => b < w.heap.size) w A xs := h.mono (fun _ hb _ => hb)

theorem rLoop_len (n : Nat) (s : RSt) : (rLoop n s).2.1.length ≤ s.1.length := by
  induction n generalizing s with
  | zero => exact Nat.le_refl _
  | succ n ih =>
    by_cases h : s.2 = 0
    · rw [rLoop_step n s h]; exact Nat.le_trans (ih _) (rText_len s)
    · rw [rLoop_err _ s h]; exact Nat.le_refl _
theorem rTexts_len (s : RSt) : (rTexts s).2.1.length ≤ s.1.length := by
  have h1 := rNum_len s
  have h2 := rLoop_len (rNum s).1 (rNum s).2
  unfold rTexts
  split
  · split
    · exact Nat.le_refl _
    · split
      · omega
      · exact Nat.le_refl _
  · exact Nat.le_refl _

theorem rLoop_count (n : Nat) (s : RSt) : (rLoop n s).1.length ≤ n := by
  induction n generalizing s with
  | zero => exact Nat.le_refl _
  | succ n ih =>
    by_cases h : s.2 = 0
    · rw [rLoop_step n s h]; exact Nat.succ_le_succ (ih _)
    · rw [rLoop_err _ s h]; exact Nat.zero_le _
theorem rTexts_count (s : RSt) : (rTexts s).1.length ≤ 1000000000 := by
  have h2 := rLoop_count (rNum s).1 (rNum s).2
  unfold rTexts
  split
  · split
    · exact Nat.zero_le _
    · split
      · omega
      · exact Nat.zero_le _
  · exact Nat.zero_le _

/-- Where the law OctetReads stands: both readers alike. -/
def ReadsAt (w0 : World) (g gm : Nat) (S : Nat → Prop) (wr : World) : Prop :=
  ∃ s : RSt, RdrAt S wr g s ∧ RrdAt wr gm s ∧ s.1.length ≤ 600 ∧ Mod Nil w0 wr

theorem reads_posts {w0 wr w1 w2 : World} {g gm : Nat} {S : Nat → Prop} {s s2 : RSt} (hS : ∀ k, S k ∨ k = g → w0.heap.size ≤ k ∧ k < gm) (hg : w0.heap.size ≤ gm) (hm : Mod Nil w0 wr)
    (h1 : RdrAt S w1 g s2) (hm1 : Mod (fun k => k = g) wr w1) (h2 : RrdAt w2 gm s2) (hm2 : Mod (fun k => k = gm) w1 w2) (hl : s2.1.length ≤ s.1.length) (hs : s.1.length ≤ 600) : ReadsAt w0 g gm S w2 := by
  refine ⟨s2, h1.keep hm2 (fun k hk hkg => by have := (hS k hk).2; omega), h2, by omega, ?_⟩
  exact (hm.trans' hm1 (fun _ _ h => h) (fun k hk hkg => by have := (hS g (.inr rfl)).1; omega)).trans' hm2 (fun _ _ h => h) (fun k hk hkg => by omega)

theorem sv_map (l : List (List UInt8)) : l.map sv = (l.map str).map Value.string := by rw [List.map_map]; rfl

set_option maxHeartbeats 6400000 in
set_option maxRecDepth 100000 in
theorem octetReads_walk (A0 : Option Addr) (n0 c0 : Nat) (l0 : List UInt8) (A1 : Option Addr) (n1 c1 : Nat) (l1 : List UInt8) (w : World) (hl0 : l0.length = n0) (hr0 : Rd All w A0 (l0.map bv)) (hl1 : l1.length = n1) (hr1 : Rd All w A1 (l1.map bv)) :
    Calls Try.prog 13 #[.slice A0 n0 c0, .slice A1 n1 c1] w fun r w' => r = .returned (.bool true) ∧ Mod Nil w w' := by
  have HR0 := Lib.hid hr0.low1
  have HR1 := Lib.hid hr1.low1
  have HL0 := Lib.hid hl0
  have HL1 := Lib.hid hl1
  clear hr0 hr1 hl0 hl1
  by_cases h4 : 600 < n0
  · go_enter Try.func13, Try.ntmps13
    go_wp2_with fail
    refine (awake1_any _).mono ?_
    rintro r w1 ⟨rfl, hm1⟩
    have HM1 := Lib.hid hm1
    clear hm1
    go_wp2_with fail
    refine (awake1_any _).mono ?_
    rintro r w2 ⟨rfl, hm2⟩
    have HM2 := Lib.hid hm2
    clear hm2
    go_wp2_with fail
    go_ret
    exact ⟨rfl, HM1.out.trans HM2.out⟩
  by_cases h2 : 40 < n1
  · go_enter Try.func13, Try.ntmps13
    go_wp2_with fail
    refine (awake1_any _).mono ?_
    rintro r w1 ⟨rfl, hm1⟩
    have HM1 := Lib.hid hm1
    clear hm1
    go_wp2_with fail
    refine (awake1_any _).mono ?_
    rintro r w2 ⟨rfl, hm2⟩
    have HM2 := Lib.hid hm2
    clear hm2
    go_wp2_with fail
    go_ret
    exact ⟨rfl, HM1.out.trans HM2.out⟩
  go_enter Try.func13, Try.ntmps13
  go_wp2_with fail
  refine (awake1_any _).mono ?_
  rintro r w0 ⟨rfl, hm1⟩
  have HM1 := Lib.hid hm1
  have k0 := conv_bytes (HR0.out.keep0 hm1) HL0.out c0
  clear hm1
  go_wp2_with fail
  refine (ropen_any A0 n0 c0 l0 _ HL0.out (by omega) ((HR0.out.keep0 HM1.out).mono (fun _ _ _ => trivial))).mono ?_
  rintro r w3 ⟨S, g, rfl, hd3, hs3, hm3⟩
  have HST := Lib.hid (show ReadsAt w0 g w3.heap.size S (w3.alloc (.cells #[.string (str l0), .int .i64 0] 122)) from ⟨(l0, 0), hd3.keep0 ((Mod.refl Nil w3).alloc _), Blk.new _ _ _, by show l0.length ≤ 600; rw [HL0.out]; omega, hm3.alloc _⟩)
  have HS3 := Lib.hid hs3
  have HZ3 := Lib.hid hm3.size
  obtain ⟨gm, hgm⟩ : ∃ gm, gm = w3.heap.size := ⟨_, rfl⟩
  rw [← hgm] at HST HS3 HZ3
  clear hd3 hs3 hm3 k0
  go_wp2_with fail
  rw [← hgm]
  clear hgm
  go_loopw [8, 9] (fun iv ev wr => ∃ i : Nat, i ≤ n1 ∧ iv = .int .i64 i ∧ ReadsAt w0 g gm S wr) (fun v _ _ => n1 - (intOf v).toNat)
  case atStart => exact ⟨0, Nat.zero_le _, rfl, HST.out⟩
  case round =>
    obtain ⟨i, hi, rfl, ⟨s, hd, hd', hlk, hm⟩⟩ := hrel
    have HM := Lib.hid hm
    have HD := Lib.hid hd
    have HD' := Lib.hid hd'
    clear hd hd' hm
    by_cases hlt : i < n1
    · obtain ⟨u, hu⟩ : ∃ u, l1[i]? = some u := ⟨_, List.getElem?_eq_getElem (by rw [HL1.out]; exact hlt)⟩
      obtain ⟨ad, rfl, _, hadl, hc⟩ := (HR1.out.keep0 (HM1.out.trans HM.out)).at_ (k := i) (u := bv u) (by rw [List.getElem?_map, hu]; rfl)
      unfold bv at hc
      have hu8 := u.toNat_lt
      clear hu
      go_upto_block 2 with fail
      obtain ⟨q, hq⟩ : ∃ q : Int, q = (u.toNat : Int) % 4 := ⟨_, rfl⟩
      rw [← hq]
      have hq3 : q = 0 ∨ q = 1 ∨ q = 2 ∨ q = 3 := by omega
      clear hq
      go_cut [] (fun wx => ReadsAt w0 g gm S wx)
      case first =>
        rcases hq3 with rfl | rfl | rfl | rfl
        · go_wp2_with fail
          refine (rnum_any S g s _ HD.out).mono ?_
          rintro r w4 ⟨rfl, hd4, hm4⟩
          have HD4 := Lib.hid hd4
          have HM4 := Lib.hid hm4
          have HE := Lib.hid (HD'.out.keep hm4 (fun h => by have := (HS3.out g (.inr rfl)).2; omega))
          clear hd4 hm4
          go_wp2_with fail
          refine (rrnum_any gm s _ HE.out (by omega)).mono ?_
          rintro r w5 ⟨rfl, hd5, hm5⟩
          have HP := Lib.hid (reads_posts HS3.out HZ3.out HM.out HD4.out HM4.out hd5 hm5 (rNum_len s) hlk)
          clear hd5 hm5
          go_wp2_with fail
          go_meet
          case rel => exact HP.out
        · go_wp2_with fail
          refine (rint_any S g s _ HD.out).mono ?_
          rintro r w4 ⟨rfl, hd4, hm4⟩
          have HD4 := Lib.hid hd4
          have HM4 := Lib.hid hm4
          have HE := Lib.hid (HD'.out.keep hm4 (fun h => by have := (HS3.out g (.inr rfl)).2; omega))
          clear hd4 hm4
          go_wp2_with fail
          refine (rrint_any gm s _ HE.out (by omega)).mono ?_
          rintro r w5 ⟨rfl, hd5, hm5⟩
          have HP := Lib.hid (reads_posts HS3.out HZ3.out HM.out HD4.out HM4.out hd5 hm5 (rInt_len s) hlk)
          clear hd5 hm5
          go_wp2_with fail
          go_meet
          case rel => exact HP.out
        · go_wp2_with fail
          refine (rtext_any S g s _ HD.out).mono ?_
          rintro r w4 ⟨rfl, hd4, hm4⟩
          have HD4 := Lib.hid hd4
          have HM4 := Lib.hid hm4
          have HE := Lib.hid (HD'.out.keep hm4 (fun h => by have := (HS3.out g (.inr rfl)).2; omega))
          clear hd4 hm4
          go_wp2_with fail
          refine (rrtext_any gm s _ HE.out (by omega)).mono ?_
          rintro r w5 ⟨rfl, hd5, hm5⟩
          have HP := Lib.hid (reads_posts HS3.out HZ3.out HM.out HD4.out HM4.out hd5 hm5 (rText_len s) hlk)
          clear hd5 hm5
          go_wp2_with fail
          go_meet
          case rel => exact HP.out
        · have hgl := HD.out.lt
          have hgml := Blk.lt HD'.out
          go_wp2_with fail
          refine (rtexts_any S g s _ HD.out (fun k hk => by have := (HS3.out k (.inl hk)).2; omega)).mono ?_
          rintro r w4 ⟨v4, rfl, ho4, hd4, hm4⟩
          have HO4 := Lib.hid ho4
          have HD4 := Lib.hid hd4
          have HM4 := Lib.hid hm4
          have HE := Lib.hid (HD'.out.keep hm4 (fun h => by have := (HS3.out g (.inr rfl)).2; omega))
          clear ho4 hd4 hm4
          go_wp2_with fail
          refine (rrtexts_any gm s _ HE.out (by omega)).mono ?_
          rintro r w5 ⟨v5, rfl, ho5, hd5, hm5⟩
          have HO4' := Lib.hid (own_keep HO4.out hm5 (fun j hj hjg => own_blk_ne HO4.out HE.out (by decide) (hjg ▸ hj)))
          obtain ⟨A4, c4, rfl, _, _⟩ := own_slice HO4.out
          obtain ⟨A5, c5, rfl, _, _⟩ := own_slice ho5
          have HO5 := Lib.hid ho5
          have HP := Lib.hid (reads_posts HS3.out HZ3.out HM.out HD4.out HM4.out hd5 hm5 (rTexts_len s) hlk)
          have h9 := rTexts_count s
          clear ho5 hd5 hm5
          go_wp2_with fail
          refine (same_any A4 A5 _ c4 _ c5 ((rTexts s).1.map str) ((rTexts s).1.map str) _ (by simp) (by simp) h9 (by rw [← sv_map]; exact (Rd.of_own HO4'.out).mono (fun _ _ _ => trivial)) (by rw [← sv_map]; exact (Rd.of_own HO5.out).mono (fun _ _ _ => trivial))).mono ?_
          rintro r w6 ⟨rfl, j, rfl⟩
          have hdt : decide ((rTexts s).1.map str = (rTexts s).1.map str) = true := by simp
          rw [hdt]
          go_wp2_with fail
          go_meet
          case rel =>
            obtain ⟨t, t1, t2, t3, t4⟩ := HP.out
            exact ⟨t, t1.keep0 ((Mod.refl Nil _).drewN j), t2.keep ((Mod.refl Nil _).drewN j) id, t3, t4.drewN j⟩
      case rest =>
        obtain ⟨⟨l2, e2⟩, hd, hd', h2k, hm⟩ := hcut
        have HM2 := Lib.hid hm
        have HE := Lib.hid hd
        have HE' := Lib.hid hd'
        have hx0 := Blk.cell hd' 0
        have hx1 := Blk.cell hd' 1
        replace hx0 : wc.cell? ⟨gm, 0, none⟩ = some (.string (str l2)) := hx0
        replace hx1 : wc.cell? ⟨gm, 1, none⟩ = some (.int .i64 e2) := hx1
        replace h2k : l2.length ≤ 600 := h2k
        have hsz := str_size l2
        clear hd hd' hm
        by_cases he : e2 = 0
        · subst he
          by_cases hl2 : 0 < l2.length
          · have HEND := Lib.hid (show rEnd (l2, 0) = 11 by simp [rEnd, hl2])
            go_wp2_with (go_quiet (first
              | (go_at_call 66; refine Calls.quiet_of_same ((rerr_any S g (l2, 0) _ (HE.out.keep0 ((Mod.refl Nil wc).drewN _))).mono (by rintro r w' ⟨rfl, rfl⟩; exact ⟨rfl, rfl⟩)))
              | (go_at_call 67; refine Calls.quiet_of_same ((rleft_any S g (l2, 0) _ (HE.out.keep0 ((Mod.refl Nil wc).drewN _))).mono (by rintro r w' ⟨rfl, rfl⟩; exact ⟨rfl, rfl⟩)))
              | (go_at_call 85; refine Calls.quiet_of_same ((rend_any S g (l2, 0) _ (HE.out.keep0 ((Mod.refl Nil wc).drewN _))).mono (by rintro r w' ⟨rfl, rfl⟩; exact ⟨by rw [HEND.out], rfl⟩)))))
            go_roundw
            case rel => exact ⟨i + 1, by omega, by go_num, _, HE.out.keep0 ((Mod.refl Nil wc).drewN _), HE'.out.keep ((Mod.refl Nil wc).drewN _) id, h2k, HM2.out.drewN _⟩
            case measure => simp [intOf] <;> omega
          · have HEND := Lib.hid (show rEnd (l2, 0) = 0 by simp [rEnd, hl2])
            go_wp2_with (go_quiet (first
              | (go_at_call 66; refine Calls.quiet_of_same ((rerr_any S g (l2, 0) _ (HE.out.keep0 ((Mod.refl Nil wc).drewN _))).mono (by rintro r w' ⟨rfl, rfl⟩; exact ⟨rfl, rfl⟩)))
              | (go_at_call 67; refine Calls.quiet_of_same ((rleft_any S g (l2, 0) _ (HE.out.keep0 ((Mod.refl Nil wc).drewN _))).mono (by rintro r w' ⟨rfl, rfl⟩; exact ⟨rfl, rfl⟩)))
              | (go_at_call 85; refine Calls.quiet_of_same ((rend_any S g (l2, 0) _ (HE.out.keep0 ((Mod.refl Nil wc).drewN _))).mono (by rintro r w' ⟨rfl, rfl⟩; exact ⟨by rw [HEND.out], rfl⟩)))))
            go_roundw
            case rel => exact ⟨i + 1, by omega, by go_num, _, HE.out.keep0 ((Mod.refl Nil wc).drewN _), HE'.out.keep ((Mod.refl Nil wc).drewN _) id, h2k, HM2.out.drewN _⟩
            case measure => simp [intOf] <;> omega
        · have HEND := Lib.hid (show rEnd (l2, e2) = e2 by simp [rEnd, he])
          have he0 : (e2 == 0) = false := by simp [he]
          have HEN := Lib.hid he
          clear he
          go_wp2_with (go_quiet (first
            | (go_at_call 66; refine Calls.quiet_of_same ((rerr_any S g (l2, e2) _ (HE.out.keep0 ((Mod.refl Nil wc).drewN _))).mono (by rintro r w' ⟨rfl, rfl⟩; exact ⟨rfl, rfl⟩)))
            | (go_at_call 67; refine Calls.quiet_of_same ((rleft_any S g (l2, e2) _ (HE.out.keep0 ((Mod.refl Nil wc).drewN _))).mono (by rintro r w' ⟨rfl, rfl⟩; exact ⟨rfl, rfl⟩)))
            | (go_at_call 85; refine Calls.quiet_of_same ((rend_any S g (l2, e2) _ (HE.out.keep0 ((Mod.refl Nil wc).drewN _))).mono (by rintro r w' ⟨rfl, rfl⟩; exact ⟨by rw [HEND.out], rfl⟩)))))
          go_roundw
          case rel => exact ⟨i + 1, by omega, by go_num, _, HE.out.keep0 ((Mod.refl Nil wc).drewN _), HE'.out.keep ((Mod.refl Nil wc).drewN _) id, h2k, HM2.out.drewN _⟩
          case measure => simp [intOf] <;> omega
    · have k1 := conv_bytes (HR0.out.keep0 (HM1.out.trans HM.out)) HL0.out c0
      go_wp2_with fail
      go_ret
      exact ⟨rfl, HM1.out.trans HM.out⟩
end Go.Proofs.Ytdllafmponmkmaa
