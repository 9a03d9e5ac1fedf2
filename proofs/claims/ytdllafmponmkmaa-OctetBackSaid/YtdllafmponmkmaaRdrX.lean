/- Contracts of octet.Reader: Text, Texts. -/
import Derived.Test.YtdllafmponmkmaaRdrP
namespace Go.Proofs.Ytdllafmponmkmaa
open Go.RowKit

theorem RdrAt.blk_ {S : Nat → Prop} {g : Nat} {w : World} {s : RSt} (h : RdrAt S w g s) : ∃ A c, Blk w g 144 #[.slice A s.1.length c, .int .i64 s.2] ∧ s.1.length ≤ c ∧ c ≤ maxLen ∧ Rd S w A (s.1.map bv) ∧ ¬ S g := h

theorem RdrAt.back {S : Nat → Prop} {g : Nat} {w : World} {s : RSt} {l0 : List UInt8} {A0 : Option Addr} {c0 : Nat} (h : RdrAt S w g s) (hr : Rd S w A0 (l0.map bv)) (hc : l0.length ≤ c0) (hm : c0 ≤ maxLen) :
    RdrAt S (w.setCell ⟨g, 0, none⟩ (.slice A0 l0.length c0)) g (l0, s.2) := by
  obtain ⟨A, c, h1, _, _, _, hB⟩ := h
  exact ⟨A0, c0, by simpa using h1.set_ 0 _, hc, hm, rd_far hr (fun k hk hkg => hB (hkg ▸ hk)), hB⟩

theorem at_g {S : Nat → Prop} {g : Nat} {w w1 : World} {A : Option Addr} {xs : List Value} (h : Rd S w A xs) (hg : ¬ S g) (hm : Mod (fun k => k = g) w w1) : Rd S w1 A xs := h.keep hm (fun k hk hkg => hg (hkg ▸ hk))

set_option maxHeartbeats 1600000 in
set_option maxRecDepth 100000 in
theorem rtext_any (S : Nat → Prop) (g : Nat) (s : RSt) (w : World) (h : RdrAt S w g s) :
    Calls Try.prog 65 #[.pointer (some ⟨g, 0, none⟩)] w (RdrPost S g w (rText s).2 (.returned (.string (str (rText s).1)))) := by
  have HN := Lib.hid (rnum_any S g s w h)
  have HNL := Lib.hid (rNum_le s)
  obtain ⟨A0, c0, h1, hc0, hm0, hr0, hB⟩ := h.blk_
  have hcell0 := h1.cell 0
  have HR0 := Lib.hid hr0
  have HMX := Lib.hid hm0
  clear h h1 hr0 hm0
  obtain ⟨n, hn⟩ : ∃ n, n = (rNum s).1 := ⟨_, rfl⟩
  obtain ⟨s1, hs1⟩ : ∃ s1, s1 = (rNum s).2 := ⟨_, rfl⟩
  by_cases he : s1.2 = 0
  · obtain ⟨l1, e1⟩ := s1
    obtain rfl : e1 = 0 := he
    by_cases hl : l1.length < n
    · have HE := Lib.hid (show rText s = ([], (s.1, 10)) by unfold rText; rw [← hs1, ← hn, if_pos rfl, if_pos hl])
      rw [HE.out]
      rw [← hn, ← hs1] at HN
      rw [← hn] at HNL
      have hnl := HNL.out
      clear hn hs1
      go_enter Try.func65, Try.ntmps65
      go_wp2_with fail
      refine HN.out.mono ?_
      rintro r w1 ⟨rfl, hd, hm1⟩
      obtain ⟨A1, c1, h1, hc1, hmx, hr1, _⟩ := hd.blk_
      replace h1 : Blk w1 g 144 #[.slice A1 l1.length c1, .int .i64 0] := h1
      have hcl0 := h1.cell 0
      have hcl1 := h1.cell 1
      have HD := Lib.hid hd
      have HM := Lib.hid hm1
      clear hd hm1 h1 hr1 hcell0
      go_wp2_with fail
      refine (rfail_any S g (l1, 0) 10 _ HD.out).mono ?_
      rintro r w2 ⟨rfl, hd, hm2⟩
      obtain ⟨A2, c2, h2, hc2, hmx2, hr2, _⟩ := hd.blk_
      replace h2 : Blk w2 g 144 #[.slice A2 l1.length c2, .int .i64 10] := h2
      have hcl0 := h2.cell 0
      have hf0 := h2.frozen 0
      have hcl1 := h2.cell 1
      have hgl := h2.lt
      have HD2 := Lib.hid (hd.back (at_g HR0.out hB (HM.out.trans hm2)) hc0 HMX.out)
      have HM2 := Lib.hid (HM.out.trans hm2)
      clear hd hm2 h2 hr2
      go_wp2_with fail
      go_ret
      exact ⟨rfl, HD2.out, HM2.out.set (p := ⟨g, 0, none⟩) (.inl rfl) _⟩
    · have HE := Lib.hid (show rText s = (l1.take n, (l1.drop n, 0)) by unfold rText; rw [← hs1, ← hn, if_pos rfl, if_neg hl])
      rw [HE.out]
      rw [← hn, ← hs1] at HN
      rw [← hn] at HNL
      have hnl := HNL.out
      clear hn hs1
      go_enter Try.func65, Try.ntmps65
      go_wp2_with fail
      refine HN.out.mono ?_
      rintro r w1 ⟨rfl, hd, hm1⟩
      obtain ⟨A1, c1, h1, hc1, hmx, hr1, hB1⟩ := hd.blk_
      replace h1 : Blk w1 g 144 #[.slice A1 l1.length c1, .int .i64 0] := h1
      replace hc1 : l1.length ≤ c1 := hc1
      replace hr1 : Rd S w1 A1 (l1.map bv) := hr1
      have hcl0 := h1.cell 0
      have hcl1 := h1.cell 1
      have hf0 := h1.frozen 0
      have hgl := h1.lt
      have hrt := hr1.take n
      rw [← List.map_take] at hrt
      have kb := conv_bytes (l := l1.take n) (n := n) hrt (by rw [List.length_take]; omega) c1
      have HC := Lib.hid (RdrAt.drop_ (k := n) h1 hc1 hmx hr1 hB1 (by omega))
      have HM := Lib.hid hm1
      unfold maxLen at hmx
      clear hd hm1 h1 hr1 hrt hcell0
      go_wp2_with fail
      all_goals
        go_ret
        exact ⟨rfl, HC.out _ _ (by first | exact .inr ⟨by omega, rfl, rfl⟩ | exact .inl ⟨by omega, rfl, rfl⟩), HM.out.set (p := ⟨g, 0, none⟩) (.inl rfl) _⟩
  · have HE := Lib.hid (show rText s = ([], (s.1, s1.2)) by unfold rText; rw [← hs1, if_neg he])
    rw [HE.out]
    rw [← hn, ← hs1] at HN
    have he0 : (s1.2 == 0) = false := by simp [he]
    have HEN := Lib.hid he
    clear hn hs1 he
    go_enter Try.func65, Try.ntmps65
    go_wp2_with fail
    refine HN.out.mono ?_
    rintro r w1 ⟨rfl, hd, hm1⟩
    obtain ⟨A1, c1, h1, hc1, hmx, hr1, _⟩ := hd.blk_
    have hcl0 := h1.cell 0
    have hcl1 := h1.cell 1
    have hf0 := h1.frozen 0
    have hgl := h1.lt
    have HD2 := Lib.hid (hd.back (at_g HR0.out hB hm1) hc0 HMX.out)
    have HM := Lib.hid hm1
    clear hd hm1 h1 hr1 hcell0
    go_wp2_with fail
    go_ret
    exact ⟨rfl, HD2.out, HM.out.set (p := ⟨g, 0, none⟩) (.inl rfl) _⟩

/-- The value of a text. -/
def sv (l : List UInt8) : Value := .string (str l)
theorem str_info : (Try.prog.info? 9).map (fun i => (i.zero, i.size, i.bytes)) = some (some (.string ⟨#[]⟩), 1, 16) := by kernel_rfl

theorem rLoop_err (n : Nat) (s : RSt) (h : s.2 ≠ 0) : rLoop n s = ([], s) := by
  cases n with
  | zero => rfl
  | succ n => rw [rLoop, if_neg h]
theorem rLoop_step (n : Nat) (s : RSt) (h : s.2 = 0) : rLoop (n + 1) s = ((rText s).1 :: (rLoop n (rText s).2).1, (rLoop n (rText s).2).2) := by rw [rLoop, if_pos h]

/-- Where Texts stands. -/
def TxAt (S : Nat → Prop) (g : Nat) (w : World) (N : Nat) (s1 : RSt) (k : Nat) (v : Value) (wr : World) : Prop :=
  ∃ (out : List (List UInt8)) (sk : RSt), wr.ownsRow w.heap.size 9 1 v k (out.map sv) ∧ RdrAt S wr g sk ∧ Mod (fun j => j = g) w wr ∧ rLoop N s1 = (out ++ (rLoop (N - k) sk).1, (rLoop (N - k) sk).2)

set_option maxHeartbeats 3200000 in
set_option maxRecDepth 100000 in
theorem rtexts_any (S : Nat → Prop) (g : Nat) (s : RSt) (w : World) (h : RdrAt S w g s) (hSl : ∀ k, S k → k < w.heap.size) :
    Calls Try.prog 83 #[.pointer (some ⟨g, 0, none⟩)] w fun r w' => ∃ v, r = .returned v ∧ w'.ownsRow w.heap.size 9 1 v (rTexts s).1.length ((rTexts s).1.map sv) ∧ RdrAt S w' g (rTexts s).2 ∧ Mod (fun k => k = g) w w' := by
  obtain ⟨i0, hi, hz0, hz1, hz2⟩ := info_parts str_info
  have HN := Lib.hid (rnum_any S g s w h)
  have HNL := Lib.hid (rNum_le s)
  have hgw := h.lt
  obtain ⟨A0, c0, h1, hc0, hm0, hr0, hB⟩ := h.blk_
  have hcell0 := h1.cell 0
  have HR0 := Lib.hid hr0
  have HMX := Lib.hid hm0
  clear h h1 hr0 hm0
  obtain ⟨n, hn⟩ : ∃ n, n = (rNum s).1 := ⟨_, rfl⟩
  obtain ⟨s1, hs1⟩ : ∃ s1, s1 = (rNum s).2 := ⟨_, rfl⟩
  by_cases he : s1.2 = 0
  · obtain ⟨l1, e1⟩ := s1
    obtain rfl : e1 = 0 := he
    by_cases hl : 1000000 < n ∨ l1.length < n
    · have HE := Lib.hid (show rTexts s = ([], (s.1, 10)) by unfold rTexts; rw [← hs1, ← hn, if_pos rfl, if_pos hl])
      rw [HE.out]
      rw [← hn, ← hs1] at HN
      rw [← hn] at HNL
      have hnl := HNL.out
      clear hn hs1
      go_enter Try.func83, Try.ntmps83
      go_wp2_with fail
      refine HN.out.mono ?_
      rintro r w1 ⟨rfl, hd, hm1⟩
      obtain ⟨A1, c1, h1, hc1, hmx, hr1, _⟩ := hd.blk_
      replace h1 : Blk w1 g 144 #[.slice A1 l1.length c1, .int .i64 0] := h1
      have hcl0 := h1.cell 0
      have hcl1 := h1.cell 1
      have HD := Lib.hid hd
      have HM := Lib.hid hm1
      clear hd hm1 h1 hr1 hcell0
      by_cases hl6 : 1000000 < n
      all_goals
        have hl7 : 1000000 < n ∨ l1.length < n := hl
        clear hl
        go_wp2_with fail
        refine (rfail_any S g (l1, 0) 10 _ HD.out).mono ?_
        rintro r w2 ⟨rfl, hd, hm2⟩
        obtain ⟨A2, c2, h2, hc2, hmx2, hr2, _⟩ := hd.blk_
        replace h2 : Blk w2 g 144 #[.slice A2 l1.length c2, .int .i64 10] := h2
        have hcl0 := h2.cell 0
        have hf0 := h2.frozen 0
        have hcl1 := h2.cell 1
        have hgl := h2.lt
        have HD2 := Lib.hid (hd.back (at_g HR0.out hB (HM.out.trans hm2)) hc0 HMX.out)
        have HM2 := Lib.hid (HM.out.trans hm2)
        clear hd hm2 h2 hr2
        go_wp2_with fail
        refine wp_loop_once ?_
        go_wp2_with fail
        go_ret
        exact ⟨_, rfl, World.ownsRow_nil _ _ _ _, HD2.out, HM2.out.set (p := ⟨g, 0, none⟩) (.inl rfl) _⟩
    · obtain ⟨Q, hQ⟩ : ∃ Q, Q = rLoop n (l1, 0) := ⟨_, rfl⟩
      have HE := Lib.hid (show rTexts s = if Q.2.2 = 0 then Q else ([], (s.1, Q.2.2)) by unfold rTexts; rw [← hs1, ← hn, if_pos rfl, if_neg hl, ← hQ])
      rw [← hn, ← hs1] at HN
      have hn6 : n ≤ 1000000 := by omega
      have hnl : n ≤ l1.length := by omega
      have HSL := Lib.hid hQ
      clear hn hs1 HNL hl hQ
      go_enter Try.func83, Try.ntmps83
      go_wp2_with fail
      refine HN.out.mono ?_
      rintro r w1 ⟨rfl, hd, hm1⟩
      obtain ⟨A1, c1, h1, hc1, hmx, hr1, _⟩ := hd.blk_
      replace h1 : Blk w1 g 144 #[.slice A1 l1.length c1, .int .i64 0] := h1
      replace hc1 : l1.length ≤ c1 := hc1
      have hcl0 := h1.cell 0
      have hcl1 := h1.cell 1
      unfold maxLen at hmx
      have HD := Lib.hid hd
      have HM := Lib.hid hm1
      clear hd hm1 h1 hr1 hcell0
      go_wp2_with fail
      rename_i q1 q2 _ _
      clear hcl0 hcl1 q1 q2 hnl
      go_loopw [5, 6] (fun ov iv wr => ∃ k : Nat, k ≤ n ∧ iv = .int .i64 k ∧ TxAt S g w n (l1, 0) k ov wr) (fun _ v _ => n - (intOf v).toNat)
      case atStart => exact ⟨0, Nat.zero_le _, rfl, [], (l1, 0), World.ownsRow_nil _ _ _ _, HD.out, HM.out, rfl⟩
      case round =>
        obtain ⟨k, hk, rfl, ⟨out, sk, ho, hd, hm, hlo⟩⟩ := hrel
        obtain ⟨A', c', rfl, _, _⟩ := own_slice ho
        obtain ⟨A2, c2, h2, hc2, hmx2, hr2, _⟩ := hd.blk_
        have hcl1 := h2.cell 1
        have HO := Lib.hid ho
        have HDk := Lib.hid hd
        have HMk := Lib.hid hm
        have HLO := Lib.hid hlo
        by_cases hek : sk.2 = 0
        · by_cases hlt : k < n
          · clear ho hd hm hlo h2 hr2
            rw [hek] at hcl1
            have HEK := Lib.hid hek
            clear hek
            go_wp2_with fail
            refine (rtext_any S g sk _ HDk.out).mono ?_
            rintro r w2 ⟨rfl, hd, hm2⟩
            have HD2 := Lib.hid hd
            have HM2 := Lib.hid hm2
            have HO2 := Lib.hid ((own_keep HO.out hm2 (fun j hj hjg => by have := (HO.out.lt j hj).1; omega)))
            clear hd hm2
            go_wp2_with (at_builtin; refine wpList_append1' _ rfl (.tmp 45) (.tmp 48) 35 rfl w.heap.size 9 i0 (.string ⟨#[]⟩) 16 Try.underlying35 hi hz0 hz1 hz2 rfl (.slice A' k c') k (out.map sv) rfl (own_keep HO2.out ((Mod.refl Nil w2).alloc _) (fun _ _ => id)) All _ 1 1 [sv (rText sk).1] rfl rfl (Rd.cells1 _ _ _) (by intro u hu; obtain rfl := List.mem_singleton.1 hu; rfl) (by omega) (by simp only [maxLen]; omega) (by have := HMk.out.size; have := HM2.out.size; simp; omega) ?_; intro A3 c3 w4 hown2 hmod2 hat2; have HO3 := Lib.hid hown2; have HM3 := Lib.hid hmod2; clear hown2 hmod2 hat2)
            go_roundw
            case rel =>
              refine ⟨k + 1, by omega, by go_num, out ++ [(rText sk).1], (rText sk).2, by rw [List.map_append]; exact HO3.out, ?_, ?_, ?_⟩
              · refine (HD2.out.keep0 ((Mod.refl Nil w2).alloc _)).keep HM3.out (fun j hj hjo => ?_)
                have := (HO2.out.lt j hjo).1
                rcases hj with hj | hj
                · have := hSl j hj; omega
                · omega
              · exact ((HMk.out.trans HM2.out).alloc _).trans' HM3.out (fun _ _ h => h) (fun j hj hjo => by have := (HO2.out.lt j hjo).1; omega)
              · obtain ⟨m, hm⟩ : ∃ m, n - k = m + 1 := ⟨n - k - 1, by omega⟩
                have := HLO.out
                rw [hm, rLoop_step m sk HEK.out] at this
                rw [show n - (k + 1) = m by omega, this]
                simp
            case measure => simp [intOf] <;> omega
          · obtain rfl : k = n := by omega
            clear ho hd hm hlo h2 hr2
            rw [hek] at hcl1
            have hfin : Q = (out, sk) := by
              rw [HSL.out, HLO.out, Nat.sub_self]
              simp [rLoop]
            have HFIN := Lib.hid (show rTexts s = (out, sk) by rw [HE.out, hfin]; exact if_pos hek)
            have HOL := Lib.hid (show out.length = k by have := HO.out.1; simpa using this)
            clear hek hfin
            go_wp2_with fail
            go_ret
            rw [HFIN.out]
            exact ⟨_, rfl, by rw [HOL.out]; exact HO.out, HDk.out, HMk.out⟩
        · have he0 : (sk.2 == 0) = false := by simp [hek]
          have hcl0 := h2.cell 0
          have hf0 := h2.frozen 0
          have hgl := h2.lt
          have hfin : Q = (out, sk) := by
            rw [HSL.out, HLO.out, rLoop_err _ _ hek]
            simp
          have HFIN := Lib.hid (show rTexts s = ([], (s.1, sk.2)) by rw [HE.out, hfin]; exact if_neg hek)
          have HD2 := Lib.hid (hd.back (at_g HR0.out hB hm) hc0 HMX.out)
          have HEK := Lib.hid hek
          clear ho hd hm hlo h2 hr2 hfin hek
          go_wp2_with fail
          all_goals
            go_ret
            rw [HFIN.out]
            exact ⟨_, rfl, World.ownsRow_nil _ _ _ _, HD2.out, HMk.out.set (p := ⟨g, 0, none⟩) (.inl rfl) _⟩
  · have HE := Lib.hid (show rTexts s = ([], (s.1, s1.2)) by unfold rTexts; rw [← hs1, if_neg he])
    rw [HE.out]
    rw [← hn, ← hs1] at HN
    have he0 : (s1.2 == 0) = false := by simp [he]
    have HEN := Lib.hid he
    clear hn hs1 he
    go_enter Try.func83, Try.ntmps83
    go_wp2_with fail
    refine HN.out.mono ?_
    rintro r w1 ⟨rfl, hd, hm1⟩
    obtain ⟨A1, c1, h1, hc1, hmx, hr1, _⟩ := hd.blk_
    have hcl0 := h1.cell 0
    have hcl1 := h1.cell 1
    have hf0 := h1.frozen 0
    have hgl := h1.lt
    have HD2 := Lib.hid (hd.back (at_g HR0.out hB hm1) hc0 HMX.out)
    have HM := Lib.hid hm1
    clear hd hm1 h1 hr1 hcell0
    go_wp2_with fail
    refine wp_loop_once ?_
    go_wp2_with fail
    all_goals
      go_ret
      exact ⟨_, rfl, World.ownsRow_nil _ _ _ _, HD2.out, HM.out.set (p := ⟨g, 0, none⟩) (.inl rfl) _⟩

end Go.Proofs.Ytdllafmponmkmaa
