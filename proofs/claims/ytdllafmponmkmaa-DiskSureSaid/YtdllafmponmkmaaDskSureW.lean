/- The walk of the law DiskSure. -/
import Derived.Test.YtdllafmponmkmaaAct
import Derived.Deep.DeepCutAuto
import Derived.Deep.CutBlock
namespace Go.Proofs.Ytdllafmponmkmaa
open Go.RowKit

theorem bool_info : (Try.prog.info? 4).map (fun i => (i.zero, i.size, i.bytes)) = some (some (.bool false), 1, 1) := by kernel_rfl

theorem crTo_all (t : Nat) (S : List UInt8) (ws : List (Nat × List UInt8)) (n : Nat) (hn : ws.length ≤ n) : ∀ k, k ≤ ws.length → crTo (List.replicate n true) (-1) t S ws k = imgOf S (ws.take k) := by
  intro k
  induction k with
  | zero => intro _; rfl
  | succ k ih =>
    intro hk
    obtain ⟨x, hx⟩ : ∃ x, ws[k]? = some x := ⟨_, List.getElem?_eq_getElem (by omega)⟩
    unfold crTo
    rw [hx, List.take_add_one, hx, ih (by omega)]
    show crStep _ _ _ _ k x = imgOf S (ws.take k ++ [x])
    rw [imgOf_snoc]
    unfold crStep
    rw [if_neg (by omega), if_pos (by rw [List.getElem?_replicate, if_pos (by omega)])]

theorem crash_all (s : DSt) (n : Nat) (hn : s.ws.length ≤ n) : s.crash (List.replicate n true) (-1) 0 = ⟨s.img, [], -1⟩ := by
  unfold DSt.crash
  rw [crTo_all _ _ _ _ hn _ (Nat.le_refl _), List.take_length]
  rfl

theorem crTo_none (t : Nat) (S : List UInt8) (ws : List (Nat × List UInt8)) : ∀ k, crTo [] (-1) t S ws k = S := by
  intro k
  induction k with
  | zero => rfl
  | succ k ih =>
    unfold crTo
    split
    · unfold crStep
      rw [if_neg (by omega), if_neg (by simp), ih]
    · exact ih
theorem crash_none (s : DSt) : s.crash [] (-1) 0 = ⟨s.S, [], -1⟩ := by
  unfold DSt.crash
  rw [crTo_none]

theorem write_keeps (s : DSt) (n : Int) (b : List UInt8) (h : s.left = -1) : (s.write n b).1.S = s.S ∧ (s.write n b).1.left = -1 ∧ (s.write n b).1.ws.length ≤ s.ws.length + 1 := by
  have hs : s.spend = s := by unfold DSt.spend; rw [if_neg (by omega)]
  unfold DSt.write
  split
  · split
    · rw [hs]
      exact ⟨rfl, h, by simp [DSt.put]⟩
    · exact ⟨rfl, h, Nat.le_succ _⟩
  · exact ⟨rfl, h, Nat.le_succ _⟩

theorem Rd.own1 {w : World} {base n c : Nat} {e : TypeId} {A : Option Addr} {xs : List Value} (h : w.ownsRow base e 1 (.slice A n c) n xs) : Rd (fun b => (Value.slice A n c).ownBlock = some b) w A xs := fun hn => by
  have hl := h.1
  obtain ⟨g, cap, hv, hb, hlt⟩ := h.form (by omega)
  injection hv with hA
  subst hA
  exact ⟨_, rfl, rfl, hlt, h.cells (g := g) rfl⟩

theorem DskAt.imgLen {B : Nat} {w : World} {g : Nat} {F : Nat → Prop} {s : DSt} (h : DskAt B w g F s) : s.img.length = s.S.length := by
  obtain ⟨vs, vw, wts, _, h⟩ := h
  exact imgOf_length h.fits

theorem sync_left {s : DSt} (h : s.left = -1) : (if s.on = true then (⟨s.img, [], s.spend.left⟩ : DSt) else s) = ⟨s.img, [], -1⟩ ∧ (if s.on = true then (0 : Int) else 20) = 0 := by
  have h1 : s.on = true := by unfold DSt.on; simp; omega
  have h2 : s.spend = s := by unfold DSt.spend; rw [if_neg (by omega)]
  rw [if_pos h1, if_pos h1, h2, h]
  exact ⟨rfl, rfl⟩

/-- Where the law DiskSure stands behind i acts. -/
structure SureAt (w0 : World) (g i : Nat) (sv kv : Value) (wr : World) : Prop where
  ex : ∃ (F : Nat → Prop) (s : DSt), sv = .string (str s.S) ∧ wr.ownsRow w0.heap.size 4 1 kv i ((List.replicate i true).map Value.bool) ∧ DskAt w0.heap.size wr g F s ∧ s.left = -1 ∧ s.ws.length ≤ i ∧ Mod Nil w0 wr

theorem own_bool_apart {B B' g i : Nat} {F : Nat → Prop} {s : DSt} {w : World} {v : Value} {xs : List Value} (h : w.ownsRow B 4 1 v i xs) (hd : DskAt B' w g F s) : ∀ k, v.ownBlock = some k → ¬ F k := by
  intro k hk hF
  obtain ⟨vs, vw, wts, rfl, hd⟩ := hd
  rcases h.2 with ⟨rfl, _⟩ | ⟨gb, cap, cur, rfl, _, hh, _⟩
  · cases hk
  · obtain rfl : gb = k := by simpa [Value.ownBlock] using hk
    have hb : Blk w gb 4 cur := hh
    rcases hF with e | e | e | ⟨x, hx, e⟩
    · exact hb.ne_ hd.blk (by decide) e
    · exact own_blk_ne hd.sure hb (by decide) e
    · exact own_blk_ne hd.waits hb (by decide) e
    · obtain ⟨cs, hbx, _⟩ := (hd.all x hx).blk
      exact hb.ne_ hbx (by decide) e.symm

set_option maxHeartbeats 6400000 in
set_option maxRecDepth 100000 in
theorem diskSure_walk (A : Option Addr) (n cap : Nat) (l : List Act3) (w : World) (hl : l.length = n) (hr : ActsAt All w A l) :
    Calls Try.prog 8 #[.slice A n cap] w fun r w' => r = .returned (.bool true) ∧ Mod Nil w w' := by
  obtain ⟨i0, hi, hz0, hz1, hz2⟩ := info_parts bool_info
  have HR := Lib.hid (show ActsAt (fun b => b < w.heap.size) w A l by
    intro hn
    obtain ⟨b, o, e, _, hb, hf⟩ := hr hn
    refine ⟨b, o, e, hb, hb, fun i a ha => ?_⟩
    obtain ⟨h0, h1, h2, ⟨B, c, h3, h4, h5⟩, K, d, h6, h7, h8⟩ := hf i a ha
    exact ⟨h0, h1, h2, ⟨B, c, h3, h4, h5.mono fun _ h _ => h⟩, K, d, h6, h7, h8.mono fun _ h _ => h⟩)
  have HL := Lib.hid hl
  clear hr hl
  by_cases hsm : actsSmall l = true
  · have hn40 : n ≤ 40 := by unfold actsSmall at hsm; simp at hsm; have := HL.out; omega
    go_enter Try.func8, Try.ntmps8
    go_wp2_with fail
    refine (awake3_any _).mono ?_
    rintro r w1 ⟨rfl, hm1⟩
    have HM1 := Lib.hid hm1
    clear hm1
    go_wp2_with fail
    refine (small3_any (fun b => b < w.heap.size) A n cap l _ HL.out (HR.out.keep HM1.out (fun _ _ => id))).mono ?_
    rintro r w2 ⟨rfl, rfl⟩
    rw [hsm]
    have HSM := Lib.hid hsm
    clear hsm
    go_wp2_with fail
    refine (dskNew_ok 4 _ (by omega) (by omega)).mono ?_
    rintro r w2 ⟨g, F, rfl, hd2, hm2⟩
    obtain ⟨Z, hZ⟩ : ∃ Z, Z = List.replicate (64 * 4) (0 : UInt8) := ⟨_, rfl⟩
    rw [← hZ] at hd2
    have hZl : Z.length = 256 := by rw [hZ]; simp
    have HD2 := Lib.hid hd2
    have HM2 := Lib.hid hm2
    have HZL := Lib.hid hZl
    clear hd2 hm2 hZ hZl
    go_wp2_with fail
    refine (dskImage_any _ g F _ _ HD2.out (by simp)).mono ?_
    rintro r w3 ⟨v3, rfl, ho3, hm3⟩
    obtain ⟨A3, c3, rfl, _, _⟩ := own_slice ho3
    have k3 := conv_bytes (l := Z) (n := Z.length) (Rd.of_own ho3) rfl c3
    have HM3 := Lib.hid hm3
    have HD3 := Lib.hid (HD2.out.keep0 hm3)
    clear ho3 hm3
    go_wp2_with fail
    go_loopw [5, 6, 7] (fun sv kv iv wr => ∃ (i : Nat), i ≤ n ∧ iv = .int .i64 i ∧ SureAt w1 g i sv kv wr) (fun _ _ v _ => n - (intOf v).toNat)
    case atStart => exact ⟨0, Nat.zero_le _, rfl, ⟨F, _, rfl, World.ownsRow_nil _ _ _ _, HD3.out, rfl, Nat.zero_le _, HM2.out.trans HM3.out⟩⟩
    case round =>
      obtain ⟨i, hi', rfl, ⟨F, s, rfl, hko, hd, hleft, hws, hm⟩⟩ := hrel
      obtain ⟨A', c', rfl, _, _⟩ := own_slice hko
      have HKO := Lib.hid hko
      have HD := Lib.hid hd
      have HM := Lib.hid hm
      clear hko hd hm
      by_cases hlt : i < n
      · obtain ⟨a, ha⟩ : ∃ a, l[i]? = some a := ⟨_, List.getElem?_eq_getElem (by rw [HL.out]; exact hlt)⟩
        obtain ⟨b, o, rfl, _, hbl, hat⟩ := (HR.out.keep (HM1.out.trans HM.out) (fun _ _ => id)) (by rw [HL.out]; omega)
        obtain ⟨h0, h1, h2, ⟨B, cB, h3, hl3, hr3⟩, K, cK, h4, hl4, hr4⟩ := hat i a ha
        have HR3 := Lib.hid hr3
        have HREP := Lib.hid (show (List.replicate i true).map Value.bool ++ [.bool true] = (List.replicate (i + 1) true).map Value.bool by rw [List.replicate_succ', List.map_append]; rfl)
        have HW := Lib.hid (show (wr.alloc (.cells #[.int .i64 a.kind, .int .i64 a.n, .int .i64 a.m, .slice B a.b.length cB, .slice K a.keep.length cK] 79)).heap.size = wr.heap.size + 1 by simp)
        have HMA := Lib.hid (((Mod.refl Nil wr).alloc (.cells #[.int .i64 a.kind, .int .i64 a.n, .int .i64 a.m, .slice B a.b.length cB, .slice K a.keep.length cK] 79)).alloc (.cells #[.bool true] 4))
        have HBA := Lib.hid ((Blk.new wr 79 #[.int .i64 a.kind, .int .i64 a.n, .int .i64 a.m, .slice B a.b.length cB, .slice K a.keep.length cK]).alloc (.cells #[.bool true] 4))
        clear hat ha hr3 hr4
        go_upto_region 13 with (at_builtin; refine wpList_append1' _ rfl (.tmp 41) (.tmp 42) 77 rfl w1.heap.size 4 i0 (.bool false) 1 Try.underlying77 hi hz0 hz1 hz2 rfl (.slice A' i c') i ((List.replicate i true).map Value.bool) rfl (own_keep HKO.out (((Mod.refl Nil wr).alloc _).alloc _) (fun _ _ => id)) All _ 1 1 [.bool true] rfl rfl (HW.out ▸ Rd.cells1 _ _ _) (by intro u hu; obtain rfl := List.mem_singleton.1 hu; rfl) (by omega) (by simp only [maxLen]; omega) (by have := HM.out.size; simp; omega) ?_; intro A2 c2 w4 hown2 hmod2 hat2)
        have hb4 := HBA.out.keep hmod2 (fun hk => by have := (HKO.out.lt _ hk).2; omega)
        have hc0 := hb4.cell 0
        have hc1 := hb4.cell 1
        have hc2 := hb4.cell 2
        have hc3 := hb4.cell 3
        have hc4 := hb4.cell 4
        have hd4 := (HD.out.keep0 HMA.out).keep hmod2 (fun k hk hkk => own_bool_apart HKO.out HD.out k hkk hk)
        have hm4 : Mod Nil w1 w4 := (HM.out.trans HMA.out).trans' hmod2 (fun _ _ h => h) (fun k hk hkk => absurd hk (by have := (HKO.out.lt k hkk).1; omega))
        have hr4 := HR3.out.keep (HMA.out.trans' hmod2 (H := fun k => (Value.slice A' i c').ownBlock = some k) (fun _ _ h => h.elim) (fun _ _ h => h)) (fun k hk hkk => by have := (HKO.out.lt k hkk).1; have := HM1.out.size; omega)
        rw [HREP.out] at hown2
        have HKO2 := Lib.hid hown2
        have HD4 := Lib.hid hd4
        have HM4 := Lib.hid hm4
        have HR4 := Lib.hid hr4
        have HB4 := Lib.hid hb4
        clear hown2 hmod2 hat2 hd4 hm4 hr4 hb4 h0 h1 h2 h3 h4
        by_cases k0 : a.kind = 0
        · have kb : (a.kind == 0) = true := by simp [k0]
          have hrefl : w4.drew.heap.size = w4.heap.size := rfl
          go_wp2_with fail
          go_region_law (first
            | (go_simp
               go_at_call 46
               refine (actOctets_any (fun b => b < w.heap.size) ⟨0, a.n, a.m, a.b, a.keep⟩ B K cB cK _ hl3 (HR4.out.keep0 ((Mod.refl Nil w4).drew)) (fun k hk => by have := HM1.out.size; have := HM4.out.size; simp only [World.drew]; omega)).mono ?_
               rintro r w5 ⟨A5, c5, rfl, hr5, hm5⟩
               have HM5 := Lib.hid (((Mod.refl Nil w4).drew).trans hm5)
               have HR5 := Lib.hid (show Rd _ w5 A5 (a.octets.map bv) from hr5)
               have hc1' := (HB4.out.keep HM5.out id).cell 1
               clear hr5 hm5)
            | (go_simp
               go_at_call 45
               refine (dskWrite_any w1.heap.size g F s a.n A5 a.octets.length c5 _ a.octets _ (HD4.out.keep0 HM5.out) (Nat.le_trans HM4.out.size HM5.out.size) (by omega) (by omega) rfl HR5.out (fun k hk hF => by have := HD4.out.lt k hF; have := HM1.out.size; simp only [World.drew] at hk; omega)).mono ?_
               rintro r w6 ⟨rfl, F6, hd6, hm6, hF6⟩
               have HD6 := Lib.hid hd6
               have HK6 := Lib.hid (own_keep (own_keep HKO2.out HM5.out (fun _ _ => id)) hm6 (own_bool_apart HKO2.out HD4.out))
               have HM6 := Lib.hid ((HM4.out.trans HM5.out).disk (HD4.out.keep0 HM5.out) hm6 (Nat.le_refl _))
               clear hd6 hm6 hF6))
          all_goals
            have HWK := Lib.hid (write_keeps s a.n a.octets hleft)
            go_wp2_with fail
            go_roundw
            case rel =>
              obtain ⟨wk1, wk2, wk3⟩ := HWK.out
              exact ⟨i + 1, by omega, by go_num, ⟨F6, _, by rw [wk1], HK6.out, HD6.out, wk2, by omega, HM6.out⟩⟩
            case measure => simp [intOf] <;> omega
        by_cases k1 : a.kind = 1
        · have kb0 : (a.kind == 0) = false := by simp [k0]
          have kb : (a.kind == 1) = true := by simp [k1]
          go_wp2_with fail
          refine (dskSync_any w1.heap.size g F s _ HD4.out HM4.out.size (by omega) (by omega)).mono ?_
          rintro r w5 h5
          rw [(sync_left hleft).1, (sync_left hleft).2] at h5
          obtain ⟨rfl, F5, hd5, hm5, hF5⟩ := h5
          have HD5 := Lib.hid hd5
          have HK5 := Lib.hid (own_keep HKO2.out hm5 (own_bool_apart HKO2.out HD4.out))
          have HM5 := Lib.hid (HM4.out.disk HD4.out hm5 (Nat.le_refl _))
          clear hd5 hm5 hF5
          go_wp2_with fail
          refine (dskImage_any _ g F5 _ _ HD5.out (by simp)).mono ?_
          rintro r w6 ⟨v6, rfl, ho6, hm6⟩
          obtain ⟨A6, c6, rfl, _, _⟩ := own_slice ho6
          have k6 := conv_bytes (l := s.img) (n := s.img.length) (Rd.of_own ho6) rfl c6
          have HD6 := Lib.hid (HD5.out.keep0 hm6)
          have HK6 := Lib.hid (own_keep HK5.out hm6 (fun _ _ => id))
          have HM6 := Lib.hid (HM5.out.trans hm6)
          clear ho6 hm6
          go_wp2_with fail
          go_roundw
          case rel => exact ⟨i + 1, by omega, by go_num, ⟨F5, ⟨s.img, [], -1⟩, rfl, HK6.out, HD6.out, rfl, Nat.zero_le _, HM6.out⟩⟩
          case measure => simp [intOf] <;> omega
        by_cases k2 : a.kind = 2
        · have kb0 : (a.kind == 0) = false := by simp [k0]
          have kb1 : (a.kind == 1) = false := by simp [k1]
          have kb : (a.kind == 2) = true := by simp [k2]
          go_wp2_with fail
          refine (dskImage_any _ g F _ _ HD4.out (by omega)).mono ?_
          rintro r w5 ⟨v5, rfl, ho5, hm5⟩
          obtain ⟨A5, c5, rfl, _, _⟩ := own_slice ho5
          have k5 := conv_bytes (l := s.img) (n := s.S.length) (Rd.of_own ho5) HD4.out.imgLen c5
          have HD5 := Lib.hid (HD4.out.keep0 hm5)
          have HK5 := Lib.hid (own_keep HKO2.out hm5 (fun _ _ => id))
          have HM5 := Lib.hid (HM4.out.trans hm5)
          clear ho5 hm5
          go_wp2_with fail
          refine (dskCrash_any w1.heap.size g F s A2 (i + 1) c2 (List.replicate (i + 1) true) (-1) 0 _ _ HD5.out (by omega) (by simp) (by simp [maxLen]; omega) (Rd.own1 HK5.out) (own_bool_apart HK5.out HD5.out)).mono ?_
          rintro r w6 h6
          rw [crash_all s (i + 1) (by omega)] at h6
          obtain ⟨rfl, F6, hd6, hm6, hF6⟩ := h6
          have HD6 := Lib.hid hd6
          have HK6 := Lib.hid (own_keep HK5.out hm6 (own_bool_apart HK5.out HD5.out))
          have HM6 := Lib.hid (HM5.out.disk HD5.out hm6 (Nat.le_refl _))
          clear hd6 hm6 hF6
          go_wp2_with fail
          refine (dskImage_any _ g F6 _ _ HD6.out (by simp)).mono ?_
          rintro r w7 ⟨v7, rfl, ho7, hm7⟩
          obtain ⟨A7, c7, rfl, _, _⟩ := own_slice ho7
          have k7 := conv_bytes (l := s.img) (n := s.img.length) (Rd.of_own ho7) rfl c7
          have HD7 := Lib.hid (HD6.out.keep0 hm7)
          have HK7 := Lib.hid (own_keep HK6.out hm7 (fun _ _ => id))
          have HM7 := Lib.hid (HM6.out.trans hm7)
          clear ho7 hm7
          go_wp2_with fail
          go_roundw
          case rel => exact ⟨i + 1, by omega, by go_num, ⟨F6, ⟨s.img, [], -1⟩, rfl, HK7.out, HD7.out, rfl, Nat.zero_le _, HM7.out⟩⟩
          case measure => simp [intOf] <;> omega
        by_cases k4 : a.kind = 4
        · have kb0 : (a.kind == 0) = false := by simp [k0]
          have kb1 : (a.kind == 1) = false := by simp [k1]
          have kb2 : (a.kind == 2) = false := by simp [k2]
          have kb : (a.kind == 4) = true := by simp [k4]
          go_wp2_with fail
          refine (dskCrash_any w1.heap.size g F s none 0 0 [] (-1) 0 (fun _ => False) _ HD4.out (by omega) rfl (by simp [maxLen]) (Rd.nil _ _ _) (fun _ h => h.elim)).mono ?_
          rintro r w5 h5
          rw [crash_none] at h5
          obtain ⟨rfl, F5, hd5, hm5, hF5⟩ := h5
          have HD5 := Lib.hid hd5
          have HK5 := Lib.hid (own_keep HKO2.out hm5 (own_bool_apart HKO2.out HD4.out))
          have HM5 := Lib.hid (HM4.out.disk HD4.out hm5 (Nat.le_refl _))
          clear hd5 hm5 hF5
          go_wp2_with fail
          refine (dskImage_any _ g F5 _ _ HD5.out (by simp)).mono ?_
          rintro r w6 ⟨v6, rfl, ho6, hm6⟩
          obtain ⟨A6, c6, rfl, _, _⟩ := own_slice ho6
          have k6 := conv_bytes (l := s.S) (n := s.S.length) (Rd.of_own ho6) rfl c6
          have HD6 := Lib.hid (HD5.out.keep0 hm6)
          have HK6 := Lib.hid (own_keep HK5.out hm6 (fun _ _ => id))
          have HM6 := Lib.hid (HM5.out.trans hm6)
          clear ho6 hm6
          go_wp2_with fail
          go_roundw
          case rel => exact ⟨i + 1, by omega, by go_num, ⟨F5, ⟨s.S, [], -1⟩, rfl, HK6.out, HD6.out, rfl, Nat.zero_le _, HM6.out⟩⟩
          case measure => simp [intOf] <;> omega
        · have kb0 : (a.kind == 0) = false := by simp [k0]
          have kb1 : (a.kind == 1) = false := by simp [k1]
          have kb2 : (a.kind == 2) = false := by simp [k2]
          have kb : (a.kind == 4) = false := by simp [k4]
          go_wp2_with fail
          go_roundw
          case rel => exact ⟨i + 1, by omega, by go_num, ⟨F, s, rfl, HKO2.out, HD4.out, hleft, by omega, HM4.out⟩⟩
          case measure => simp [intOf] <;> omega
      · go_wp2_with fail
        go_ret
        exact ⟨rfl, HM1.out.trans HM.out⟩
  · have hsm' : actsSmall l = false := by simpa using hsm
    go_enter Try.func8, Try.ntmps8
    go_wp2_with fail
    refine (awake3_any _).mono ?_
    rintro r w1 ⟨rfl, hm1⟩
    have HM1 := Lib.hid hm1
    clear hm1
    go_wp2_with fail
    refine (small3_any (fun b => b < w.heap.size) A n cap l _ HL.out (HR.out.keep HM1.out (fun _ _ => id))).mono ?_
    rintro r w2 ⟨rfl, rfl⟩
    rw [hsm']
    clear hsm hsm'
    go_wp2_with fail
    refine (awake3_any _).mono ?_
    rintro r w3 ⟨rfl, hm3⟩
    have HM3 := Lib.hid (HM1.out.trans hm3)
    clear hm3
    go_wp2_with fail
    go_ret
    exact ⟨rfl, HM3.out⟩
end Go.Proofs.Ytdllafmponmkmaa
