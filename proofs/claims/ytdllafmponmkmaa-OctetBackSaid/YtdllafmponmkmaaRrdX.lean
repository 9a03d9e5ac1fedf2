/- Contracts of the document's reader: Text, Texts; Same. -/
import Derived.Test.YtdllafmponmkmaaRrdW
namespace Go.Proofs.Ytdllafmponmkmaa
open Go.RowKit

theorem rNum_pos {s : RSt} (h : (rNum s).2.2 = 0) : s.2 = 0 := by
  by_cases hs : s.2 = 0
  · exact hs
  · rw [rNum_err s hs] at h; exact h

/-- What is written to a new block and to block g turns only block g. -/
theorem mod_new {g : Nat} {w a b : World} (h : Mod (fun k => k = g) w a) (hm : Mod (fun k => k = w.heap.size) a b) : Mod (fun k => k = g) w b :=
  h.trans' hm (fun _ _ h => h) (fun k hk hk' => by omega)

theorem Mod.put0 {w w1 : World} (h : Mod Nil w w1) (g i : Nat) (v : Value) : Mod (fun k => k = g) w (w1.setCell ⟨g, i, none⟩ v) := (h.any (F := fun k => k = g)).set (p := ⟨g, i, none⟩) (.inl rfl) v
theorem Mod.put1 {w w1 : World} (h : Mod Nil w w1) (g x i j : Nat) (u v : Value) (hx : w.heap.size ≤ x) : Mod (fun k => k = g) w ((w1.setCell ⟨x, j, none⟩ u).setCell ⟨g, i, none⟩ v) := ((h.any (F := fun k => k = g)).set (p := ⟨x, j, none⟩) (.inr hx) u).set (p := ⟨g, i, none⟩) (.inl rfl) v

set_option maxHeartbeats 1600000 in
set_option maxRecDepth 100000 in
theorem rrtext_any (g : Nat) (s : RSt) (w : World) (h : RrdAt w g s) (hbig : s.1.length ≤ 1000000000) :
    Calls Try.prog 81 #[.pointer (some ⟨g, 0, none⟩)] w (RrdPost g w (rText s).2 (.returned (.string (str (rText s).1)))) := by
  have H := Lib.hid h
  have hc0 := Blk.cell h 0
  have hc1 := Blk.cell h 1
  have hgl := Blk.lt h
  have HNL := Lib.hid (rNum_le s)
  have HNB := Lib.hid (rNum_len s)
  have HX := Lib.hid (show RrdAt (w.alloc (.cells #[.string (str s.1), .int .i64 s.2] 122)).drew w.heap.size s from Blk.new _ _ _)
  have HC := Lib.hid (rrnum_any w.heap.size s _ HX.out hbig)
  clear h
  obtain ⟨n, hn⟩ : ∃ n, n = (rNum s).1 := ⟨_, rfl⟩
  obtain ⟨s1, hs1⟩ : ∃ s1, s1 = (rNum s).2 := ⟨_, rfl⟩
  have hnl : n ≤ 2147483647 := by rw [hn]; exact HNL.out
  have hsb : s1.1.length ≤ 1000000000 := by rw [hs1]; exact Nat.le_trans HNB.out hbig
  rw [← hn, ← hs1] at HC
  by_cases he : s1.2 = 0
  · have hs2 : s.2 = 0 := rNum_pos (hs1 ▸ he)
    have HS2 := Lib.hid hs2
    clear hs2
    obtain ⟨l1, e1⟩ := s1
    obtain rfl : e1 = 0 := he
    have hsz := str_size l1
    replace hsb : l1.length ≤ 1000000000 := hsb
    by_cases hl : l1.length < n
    · have HE := Lib.hid (show rText s = ([], (s.1, 10)) by unfold rText; rw [← hs1, ← hn, if_pos rfl, if_pos hl])
      rw [HE.out]
      clear hn hs1
      go_enter Try.func81, Try.ntmps81
      go_wp2_with fail
      go_region
      go_wp2_with fail
      refine HC.out.mono ?_
      rintro r w1 ⟨rfl, hd, hm1⟩
      have HM := Lib.hid (mod_new (((Mod.refl (fun k => k = g) w).alloc _).drew) hm1)
      have HG := Lib.hid (H.out.keep ((((Mod.refl Nil w).alloc (.cells #[.string (str s.1), .int .i64 s.2] 122)).drew).trans' (H := fun k => k = w.heap.size) hm1 (fun _ _ h => h.elim) (fun _ _ h => h)) (by omega))
      have hx0 := Blk.cell hd 0
      have hx1 := Blk.cell hd 1
      have hxf := Blk.frozen hd 1
      have hg1 := Blk.cell HG.out 1
      have hgf := Blk.frozen HG.out 1
      have hxl := Blk.lt hd
      have hgl1 := Blk.lt HG.out
      have hgx : g ≠ w.heap.size := by omega
      replace hx0 : w1.cell? ⟨w.heap.size, 0, none⟩ = some (.string (str l1)) := hx0
      replace hx1 : w1.cell? ⟨w.heap.size, 1, none⟩ = some (.int .i64 0) := hx1
      clear hd hm1 hc0 hc1
      go_wp2_with fail
      go_ret
      refine ⟨rfl, RrdAt.err (s := s) ?_ 10, (HM.out.set (p := ⟨w.heap.size, 1, none⟩) (.inr (Nat.le_refl _)) _).set (p := ⟨g, 1, none⟩) (.inl rfl) _⟩
      exact Blk.far HG.out hgx _
    · have HE := Lib.hid (show rText s = (l1.take n, (l1.drop n, 0)) by unfold rText; rw [← hs1, ← hn, if_pos rfl, if_neg hl])
      rw [HE.out]
      clear hn hs1
      have ht := str_take l1 n
      have hdr := str_drop l1 n l1.length rfl
      go_enter Try.func81, Try.ntmps81
      go_wp2_with fail
      go_region
      go_wp2_with fail
      refine HC.out.mono ?_
      rintro r w1 ⟨rfl, hd, hm1⟩
      have HM := Lib.hid (mod_new (((Mod.refl (fun k => k = g) w).alloc _).drew) hm1)
      have HG := Lib.hid (H.out.keep ((((Mod.refl Nil w).alloc (.cells #[.string (str s.1), .int .i64 s.2] 122)).drew).trans' (H := fun k => k = w.heap.size) hm1 (fun _ _ h => h.elim) (fun _ _ h => h)) (by omega))
      have hx0 := Blk.cell hd 0
      have hx1 := Blk.cell hd 1
      have hg0 := Blk.cell HG.out 0
      have hgf := Blk.frozen HG.out 0
      have hxl := Blk.lt hd
      have hgl1 := Blk.lt HG.out
      have hgx : g ≠ w.heap.size := by omega
      replace hx0 : w1.cell? ⟨w.heap.size, 0, none⟩ = some (.string (str l1)) := hx0
      replace hx1 : w1.cell? ⟨w.heap.size, 1, none⟩ = some (.int .i64 0) := hx1
      clear hd hm1 hc0 hc1
      go_wp2_with fail
      go_ret
      refine ⟨rfl, ?_, HM.out.set (p := ⟨g, 0, none⟩) (.inl rfl) _⟩
      have := HG.out.text (l1.drop n)
      rw [HS2.out] at this
      exact this
  · have HE := Lib.hid (show rText s = ([], (s.1, s1.2)) by unfold rText; rw [← hs1, if_neg he])
    have he0 : (s1.2 == 0) = false := by simp [he]
    have he1 : (s1.2 != 0) = true := by simp [he]
    rw [HE.out]
    clear hn hs1 he
    go_enter Try.func81, Try.ntmps81
    go_wp2_with fail
    go_region
    go_wp2_with fail
    refine HC.out.mono ?_
    rintro r w1 ⟨rfl, hd, hm1⟩
    have HM := Lib.hid (mod_new (((Mod.refl (fun k => k = g) w).alloc _).drew) hm1)
    have HG := Lib.hid (H.out.keep ((((Mod.refl Nil w).alloc (.cells #[.string (str s.1), .int .i64 s.2] 122)).drew).trans' (H := fun k => k = w.heap.size) hm1 (fun _ _ h => h.elim) (fun _ _ h => h)) (by omega))
    have hx0 := Blk.cell hd 0
    have hx1 := Blk.cell hd 1
    have hg1 := Blk.cell HG.out 1
    have hgf := Blk.frozen HG.out 1
    have hxl := Blk.lt hd
    have hgl1 := Blk.lt HG.out
    have hgx : g ≠ w.heap.size := by omega
    clear hd hm1 hc0 hc1
    go_wp2_with fail
    go_ret
    exact ⟨rfl, RrdAt.err (s := s) HG.out s1.2, HM.out.set (p := ⟨g, 1, none⟩) (.inl rfl) _⟩

/-- Where the document's Texts stands. -/
def RtAt (g gx : Nat) (s : RSt) (w : World) (N : Nat) (s1 : RSt) (k : Nat) (v : Value) (wr : World) : Prop :=
  ∃ (out : List (List UInt8)) (sk : RSt), wr.ownsRow w.heap.size 9 1 v k (out.map sv) ∧ RrdAt wr gx sk ∧ RrdAt wr g s ∧ Mod Nil w wr ∧ sk.1.length ≤ 1000000000 ∧ rLoop N s1 = (out ++ (rLoop (N - k) sk).1, (rLoop (N - k) sk).2)

set_option maxHeartbeats 3200000 in
set_option maxRecDepth 100000 in
theorem rrtexts_any (g : Nat) (s : RSt) (w : World) (h : RrdAt w g s) (hbig : s.1.length ≤ 1000000000) :
    Calls Try.prog 84 #[.pointer (some ⟨g, 0, none⟩)] w fun r w' => ∃ v, r = .returned v ∧ w'.ownsRow w.heap.size 9 1 v (rTexts s).1.length ((rTexts s).1.map sv) ∧ RrdAt w' g (rTexts s).2 ∧ Mod (fun k => k = g) w w' := by
  obtain ⟨i0, hi, hz0, hz1, hz2⟩ := info_parts str_info
  have H := Lib.hid h
  have hc0 := Blk.cell h 0
  have hc1 := Blk.cell h 1
  have hgl := Blk.lt h
  have HNL := Lib.hid (rNum_le s)
  have HNB := Lib.hid (rNum_len s)
  have HX := Lib.hid (show RrdAt (w.alloc (.cells #[.string (str s.1), .int .i64 s.2] 122)).drew w.heap.size s from Blk.new _ _ _)
  have HC := Lib.hid (rrnum_any w.heap.size s _ HX.out hbig)
  clear h
  obtain ⟨n, hn⟩ : ∃ n, n = (rNum s).1 := ⟨_, rfl⟩
  obtain ⟨s1, hs1⟩ : ∃ s1, s1 = (rNum s).2 := ⟨_, rfl⟩
  have hnl : n ≤ 2147483647 := by rw [hn]; exact HNL.out
  have hsb : s1.1.length ≤ 1000000000 := by rw [hs1]; exact Nat.le_trans HNB.out hbig
  rw [← hn, ← hs1] at HC
  have HM0 := Lib.hid (show Mod Nil w (w.alloc (.cells #[.string (str s.1), .int .i64 s.2] 122)).drew from ((Mod.refl Nil w).alloc _).drew)
  by_cases he : s1.2 = 0
  · have hs2 : s.2 = 0 := rNum_pos (hs1 ▸ he)
    have HS2 := Lib.hid hs2
    clear hs2
    obtain ⟨l1, e1⟩ := s1
    obtain rfl : e1 = 0 := he
    have hsz := str_size l1
    replace hsb : l1.length ≤ 1000000000 := hsb
    by_cases hl : 1000000 < n ∨ l1.length < n
    · have HE := Lib.hid (show rTexts s = ([], (s.1, 10)) by unfold rTexts; rw [← hs1, ← hn, if_pos rfl, if_pos hl])
      rw [HE.out]
      clear hn hs1
      go_enter Try.func84, Try.ntmps84
      go_wp2_with fail
      go_region
      go_wp2_with fail
      refine HC.out.mono ?_
      rintro r w1 ⟨rfl, hd, hm1⟩
      have HM := Lib.hid (HM0.out.trans' hm1 (H := Nil) (fun _ _ h => h) (fun k hk hk' => by omega))
      have HG := Lib.hid (H.out.keep HM.out id)
      have hx0 := Blk.cell hd 0
      have hx1 := Blk.cell hd 1
      have hxf := Blk.frozen hd 1
      have hg1 := Blk.cell HG.out 1
      have hgf := Blk.frozen HG.out 1
      have hxl := Blk.lt hd
      have hgl1 := Blk.lt HG.out
      have hgx : g ≠ w.heap.size := by omega
      replace hx0 : w1.cell? ⟨w.heap.size, 0, none⟩ = some (.string (str l1)) := hx0
      replace hx1 : w1.cell? ⟨w.heap.size, 1, none⟩ = some (.int .i64 0) := hx1
      clear hd hm1 hc0 hc1
      by_cases hl6 : 1000000 < n
      all_goals
        have hl7 : 1000000 < n ∨ l1.length < n := hl
        clear hl
        go_wp2_with fail
        refine wp_loop_once ?_
        go_wp2_with fail
        go_ret
        refine ⟨_, rfl, World.ownsRow_nil _ _ _ _, RrdAt.err (s := s) ?_ 10, HM.out.put1 _ _ _ _ _ _ (Nat.le_refl _)⟩
        exact Blk.far HG.out hgx _
    · obtain ⟨Q, hQ⟩ : ∃ Q, Q = rLoop n (l1, 0) := ⟨_, rfl⟩
      have HE := Lib.hid (show rTexts s = if Q.2.2 = 0 then Q else ([], (s.1, Q.2.2)) by unfold rTexts; rw [← hs1, ← hn, if_pos rfl, if_neg hl, ← hQ])
      have hn6 : n ≤ 1000000 := by omega
      have hnl : n ≤ l1.length := by omega
      have HQ := Lib.hid hQ
      clear hn hs1 HNL hl hQ
      go_enter Try.func84, Try.ntmps84
      go_wp2_with fail
      go_region
      go_wp2_with fail
      refine HC.out.mono ?_
      rintro r w1 ⟨rfl, hd, hm1⟩
      have HM := Lib.hid (HM0.out.trans' hm1 (H := Nil) (fun _ _ h => h) (fun k hk hk' => by omega))
      have HG := Lib.hid (H.out.keep HM.out id)
      have HD := Lib.hid hd
      have hx0 := Blk.cell hd 0
      have hx1 := Blk.cell hd 1
      have hgx : g ≠ w.heap.size := by omega
      replace hx0 : w1.cell? ⟨w.heap.size, 0, none⟩ = some (.string (str l1)) := hx0
      replace hx1 : w1.cell? ⟨w.heap.size, 1, none⟩ = some (.int .i64 0) := hx1
      clear hd hm1 hc0 hc1
      go_wp2_with fail
      rename_i q1 q2 _ _
      clear hx0 hx1 q1 q2 hnl
      go_loopw [5, 6] (fun ov iv wr => ∃ k : Nat, k ≤ n ∧ iv = .int .i64 k ∧ RtAt g w.heap.size s w n (l1, 0) k ov wr) (fun _ v _ => n - (intOf v).toNat)
      case atStart => exact ⟨0, Nat.zero_le _, rfl, [], (l1, 0), World.ownsRow_nil _ _ _ _, HD.out, HG.out, HM.out, hsb, rfl⟩
      case round =>
        obtain ⟨k, hk, rfl, ⟨out, sk, ho, hd, hg, hm, hskb, hlo⟩⟩ := hrel
        obtain ⟨A', c', rfl, _, _⟩ := own_slice ho
        have hcl1 := Blk.cell hd 1
        have HO := Lib.hid ho
        have HDk := Lib.hid hd
        have HGk := Lib.hid hg
        have HMk := Lib.hid hm
        have HLO := Lib.hid hlo
        by_cases hek : sk.2 = 0
        · by_cases hlt : k < n
          · clear ho hd hg hm hlo
            rw [hek] at hcl1
            have HEK := Lib.hid hek
            have hskb2 := rText_len sk
            clear hek
            go_wp2_with fail
            refine (rrtext_any w.heap.size sk _ HDk.out hskb).mono ?_
            rintro r w2 ⟨rfl, hd, hm2⟩
            have HD2 := Lib.hid hd
            have HM2 := Lib.hid (HMk.out.trans' hm2 (H := Nil) (fun _ _ h => h) (fun k hk hk' => by omega))
            have HO2 := Lib.hid ((own_keep HO.out hm2 (fun j hj hjg => own_blk_ne HO.out HDk.out (by decide) (hjg ▸ hj))))
            clear hd hm2
            go_wp2_with (at_builtin; refine wpList_append1' _ rfl (.tmp 42) (.tmp 44) 35 rfl w.heap.size 9 i0 (.string ⟨#[]⟩) 16 Try.underlying35 hi hz0 hz1 hz2 rfl (.slice A' k c') k (out.map sv) rfl (own_keep HO2.out ((Mod.refl Nil w2).alloc _) (fun _ _ => id)) All _ 1 1 [sv (rText sk).1] rfl rfl (Rd.cells1 _ _ _) (by intro u hu; obtain rfl := List.mem_singleton.1 hu; rfl) (by omega) (by simp only [maxLen]; omega) (by have := HM2.out.size; simp; omega) ?_; intro A3 c3 w4 hown2 hmod2 hat2; have HO3 := Lib.hid hown2; have HM3 := Lib.hid hmod2; clear hown2 hmod2 hat2)
            go_roundw
            case rel =>
              have hlow := fun j hj => (HO2.out.lt j hj).1
              refine ⟨k + 1, by omega, by go_num, out ++ [(rText sk).1], (rText sk).2, by rw [List.map_append]; exact HO3.out, ?_, ?_, ?_, by omega, ?_⟩
              · exact (HD2.out.keep ((Mod.refl Nil w2).alloc _) id).keep HM3.out (own_blk_ne HO2.out HD2.out (by decide))
              · exact (H.out.keep HM2.out id |>.keep ((Mod.refl Nil w2).alloc _) id).keep HM3.out (fun hj => by have := hlow g hj; omega)
              · exact (HM2.out.alloc _).trans' HM3.out (fun _ _ h => h) (fun j hj hjo => by have := hlow j hjo; omega)
              · obtain ⟨m, hm⟩ : ∃ m, n - k = m + 1 := ⟨n - k - 1, by omega⟩
                have := HLO.out
                rw [hm, rLoop_step m sk HEK.out] at this
                rw [show n - (k + 1) = m by omega, this]
                simp
            case measure => simp [intOf] <;> omega
          · obtain rfl : k = n := by omega
            have hcl0 := Blk.cell hd 0
            have hg0 := Blk.cell hg 0
            have hgf := Blk.frozen hg 0
            have hgl1 := Blk.lt hg
            clear ho hd hg hm hlo
            rw [hek] at hcl1
            have hfin : Q = (out, sk) := by
              rw [HQ.out, HLO.out, Nat.sub_self]
              simp [rLoop]
            have HFIN := Lib.hid (show rTexts s = (out, sk) by rw [HE.out, hfin]; exact if_pos hek)
            have HOL := Lib.hid (show out.length = k by have := HO.out.1; simpa using this)
            have HEK := Lib.hid hek
            clear hek hfin
            go_wp2_with fail
            go_ret
            rw [HFIN.out]
            refine ⟨_, rfl, by rw [HOL.out]; exact own_keep HO.out (mod_set _ _ _ _) (fun j hj hjg => by have := (HO.out.lt j hj).1; omega), ?_, HMk.out.put0 _ _ _⟩
            have := HGk.out.text sk.1
            rw [HS2.out, ← HEK.out] at this
            exact this
        · have he0 : (sk.2 == 0) = false := by simp [hek]
          have he1 : (sk.2 != 0) = true := by simp [hek]
          have hg1 := Blk.cell hg 1
          have hgf := Blk.frozen hg 1
          have hgl1 := Blk.lt hg
          have hfin : Q = (out, sk) := by
            rw [HQ.out, HLO.out, rLoop_err _ _ hek]
            simp
          have HFIN := Lib.hid (show rTexts s = ([], (s.1, sk.2)) by rw [HE.out, hfin]; exact if_neg hek)
          have HEK := Lib.hid hek
          clear ho hd hg hm hlo hfin hek
          go_wp2_with fail
          all_goals
            go_ret
            rw [HFIN.out]
            exact ⟨_, rfl, World.ownsRow_nil _ _ _ _, RrdAt.err (s := s) HGk.out sk.2, HMk.out.put0 _ _ _⟩
  · have HE := Lib.hid (show rTexts s = ([], (s.1, s1.2)) by unfold rTexts; rw [← hs1, if_neg he])
    have he0 : (s1.2 == 0) = false := by simp [he]
    have he1 : (s1.2 != 0) = true := by simp [he]
    rw [HE.out]
    have HEN := Lib.hid he
    clear hn hs1 he
    go_enter Try.func84, Try.ntmps84
    go_wp2_with fail
    go_region
    go_wp2_with fail
    refine HC.out.mono ?_
    rintro r w1 ⟨rfl, hd, hm1⟩
    have HM := Lib.hid (HM0.out.trans' hm1 (H := Nil) (fun _ _ h => h) (fun k hk hk' => by omega))
    have HG := Lib.hid (H.out.keep HM.out id)
    have hx0 := Blk.cell hd 0
    have hx1 := Blk.cell hd 1
    have hg1 := Blk.cell HG.out 1
    have hgf := Blk.frozen HG.out 1
    have hxl := Blk.lt hd
    have hgl1 := Blk.lt HG.out
    have hgx : g ≠ w.heap.size := by omega
    clear hd hm1 hc0 hc1
    go_wp2_with fail
    refine wp_loop_once ?_
    go_wp2_with fail
    all_goals
      go_ret
      exact ⟨_, rfl, World.ownsRow_nil _ _ _ _, RrdAt.err (s := s) HG.out s1.2, HM.out.put0 _ _ _⟩

theorem drewN_drewN (w : World) (a b : Nat) : ∃ k, (w.drewN a).drewN b = w.drewN k := ⟨a + b, by simp [World.drewN, Nat.add_assoc]⟩

set_option maxHeartbeats 1600000 in
set_option maxRecDepth 100000 in
theorem same_any (A B : Option Addr) (n c m d : Nat) (a b : List ByteArray) (w : World) (hn : a.length = n) (hm : b.length = m) (hn9 : n ≤ 1000000000) (hra : Rd All w A (a.map Value.string)) (hrb : Rd All w B (b.map Value.string)) :
    Calls Try.prog 82 #[.slice A n c, .slice B m d] w fun r w' => r = .returned (.bool (decide (a = b))) ∧ ∃ k, w' = w.drewN k := by
  have HA := Lib.hid hra
  have HB := Lib.hid hrb
  have HN := Lib.hid hn
  have HM := Lib.hid hm
  clear hra hrb hn hm
  by_cases hnm : n = m
  · subst hnm
    go_enter Try.func82, Try.ntmps82
    go_wp2_with fail
    go_loopw [5] (fun iv wr => ∃ k : Nat, k ≤ n ∧ iv = .int .i64 k ∧ a.take k = b.take k ∧ ∃ j, wr = w.drewN j) (fun v _ => n - (intOf v).toNat)
    case atStart => exact ⟨0, Nat.zero_le _, rfl, rfl, 0, rfl⟩
    case round =>
      obtain ⟨k, hk, rfl, heq, j, rfl⟩ := hrel
      have HEQ := Lib.hid heq
      clear heq
      by_cases hlt : k < n
      · obtain ⟨x, hx⟩ : ∃ x, a[k]? = some x := ⟨_, List.getElem?_eq_getElem (by rw [HN.out]; exact hlt)⟩
        obtain ⟨y, hy⟩ : ∃ y, b[k]? = some y := ⟨_, List.getElem?_eq_getElem (by rw [HM.out]; exact hlt)⟩
        obtain ⟨ad, rfl, _, hadl, hcx⟩ := HA.out.at_ (k := k) (u := Value.string x) (by rw [List.getElem?_map, hx]; rfl)
        obtain ⟨bd, rfl, _, hbdl, hcy⟩ := HB.out.at_ (k := k) (u := Value.string y) (by rw [List.getElem?_map, hy]; rfl)
        have HXX := Lib.hid hx
        have HYY := Lib.hid hy
        clear hx hy
        by_cases hxy : x = y
        · subst hxy
          go_wp2_with (go_quiet (fail))
          go_roundw
          case rel =>
            refine ⟨k + 1, by omega, by go_num, ?_, by first | exact ⟨_, rfl⟩ | exact drewN_drewN w j _⟩
            rw [List.take_add_one, List.take_add_one, HEQ.out, HXX.out, HYY.out]
          case measure => simp [intOf] <;> omega
        · have HF := Lib.hid (show decide (a = b) = false by
            simp
            rintro rfl
            have h1 := HXX.out
            rw [HYY.out] at h1
            injection h1 with h1
            exact hxy h1.symm)
          have hb : (x.toList == y.toList) = false := by
            rw [ByteArray.toList_eq, ByteArray.toList_eq]
            simp
            intro h
            exact hxy (by rw [← str_eta x, ← str_eta y, h])
          clear hxy
          go_wp2_with (go_quiet (fail))
          go_ret
          exact ⟨ret_bool HF.out.symm, by first | exact ⟨_, rfl⟩ | exact drewN_drewN w j _⟩
      · have HF := Lib.hid (show decide (a = b) = true by
          have := HEQ.out
          rw [List.take_of_length_le (by rw [HN.out]; omega), List.take_of_length_le (by rw [HM.out]; omega)] at this
          simp [this])
        go_wp2_with fail
        go_ret
        exact ⟨ret_bool HF.out.symm, j, rfl⟩
  · have HF := Lib.hid (show decide (a = b) = false by
      simp
      intro h
      exact hnm (by rw [← HN.out, ← HM.out, h]))
    go_enter Try.func82, Try.ntmps82
    go_wp2_with fail
    go_ret
    exact ⟨ret_bool HF.out.symm, 0, rfl⟩

end Go.Proofs.Ytdllafmponmkmaa
