/- Contracts of journal: Recover. -/
import Derived.Test.YtjmehamkpmimkaaJrnG
namespace Go.Proofs.Ytjmehamkpmimkaa
open Go.RowKit

theorem said_join (u0 u1 u2 u3 : UInt8) : bits .or .u32 (bits .or .u32 (bits .or .u32 (u0.toNat : Int) ((u1.toNat : Int) * 256)) ((u2.toNat : Int) * 65536)) ((u3.toNat : Int) * 16777216) = ((u0.toNat + 256 * u1.toNat + 65536 * u2.toNat + 16777216 * u3.toNat : Nat) : Int) := by
  have b0 := u0.toNat_lt
  have b1 := u1.toNat_lt
  have b2 := u2.toNat_lt
  have b3 := u3.toNat_lt
  rw [u32_or8 (u0.toNat : Int) ((u1.toNat : Int) * 256) (by omega) (by omega) (by omega) (by omega) (by omega), u32_or16 ((u0.toNat : Int) + (u1.toNat : Int) * 256) ((u2.toNat : Int) * 65536) (by omega) (by omega) (by omega) (by omega) (by omega), u32_or24 ((u0.toNat : Int) + (u1.toNat : Int) * 256 + (u2.toNat : Int) * 65536) ((u3.toNat : Int) * 16777216) (by omega) (by omega) (by omega) (by omega) (by omega)]
  omega
theorem said_of {O : List UInt8} {u0 u1 u2 u3 : UInt8} (h0 : O[8]? = some u0) (h1 : O[9]? = some u1) (h2 : O[10]? = some u2) (h3 : O[11]? = some u3) : saidOf O = u0.toNat + 256 * u1.toNat + 65536 * u2.toNat + 16777216 * u3.toNat := by
  unfold saidOf leVal4
  simp only [List.getD_eq_getElem?_getD, List.getElem?_drop, Nat.reduceAdd, h0, h1, h2, h3, Option.getD_some]

set_option maxHeartbeats 3200000 in
set_option maxRecDepth 100000 in
theorem jrecover_any (B g : Nat) (F : Nat → Prop) (s : DSt) (w : World) (h : DskAt B w g F s) (hB : B ≤ w.heap.size) (hbig : s.ws.length ≤ 400000) (hl : s.left ≤ 9223372036854775807) :
    Calls Try.prog 17 #[.pointer (some ⟨g, 0, none⟩)] w (DskPost B w g F (jRecover s).1 (.returned (.int .i64 (jRecover s).2))) := by
  have hmf : ∀ (fn : Fn) (first cap : Array Value) (w : World), (Instr.makeFunc fn first cap).run Try.prog w = .ok (.func fn first cap) w := fun _ _ _ _ => rfl
  have HD := Lib.hid h
  obtain ⟨h1, h2, h3, hok⟩ := h.sized
  have HI := Lib.hid hok.img
  have HRM := Lib.hid (room_any B g F s w h)
  have HFL := Lib.hid (fun j hj => (h.lt j hj).2)
  rcases room_cases h1 h2 with ⟨hr, h4⟩ | ⟨hr, h4, ha1, ha2, ha3⟩
  · have HG := Lib.hid (show jRecover s = (s, 2) by unfold jRecover; rw [if_pos (by rw [hr]; decide)])
    rw [hr] at HRM
    clear h hok h3 hr
    go_enter Try.func17, Try.ntmps17
    go_wp2_with fail
    refine HRM.out.mono ?_
    rintro r w1 ⟨rfl, rfl⟩
    go_wp2_with fail
    go_ret
    rw [HG.out]
    exact HD.out.post (Mod.refl _ _)
  · have HHO := Lib.hid (fun w' (hw' : Mod Nil w w') => homes_any B g F s w' (HD.out.keep0 hw'))
    have HSZ := Lib.hid (fun w' (hw' : Mod Nil w w') => dskSize_any B g F s w' (HD.out.keep0 hw'))
    have HAR := Lib.hid (fun w' => areas_any s.secs w' h1 h2)
    obtain ⟨a, ha⟩ : ∃ a, a = jA s.secs := ⟨_, rfl⟩
    have hH : s.home ≤ 70000 := by unfold DSt.home; omega
    have hRn : ¬ jRoom s.secs < 0 := by rw [hr]; omega
    rw [← ha] at HAR hr ha1 ha2 ha3
    obtain ⟨R, hR⟩ : ∃ R : Nat, R = 64 * a - 12 := ⟨_, rfl⟩
    rw [← hR] at hr
    have HRD := Lib.hid (fun w' (hw' : Mod Nil w w') => read_any B g F s 1 a w' 1 (a : Int) (HD.out.keep0 hw') rfl rfl (by omega) (by omega) (by omega) (by omega))
    have HRD0 := Lib.hid (fun w' (hw' : Mod Nil w w') => read_any B g F s 0 1 w' 0 1 (HD.out.keep0 hw') rfl rfl (by omega) (by omega) (by omega) (by omega))
    obtain ⟨b, hb⟩ : ∃ b, b = jnOf a s.img := ⟨_, rfl⟩
    obtain ⟨O, hO⟩ : ∃ O, O = sector s.img 0 := ⟨_, rfl⟩
    have hbl : b.length = 64 * a := by rw [hb, jnOf, List.length_take, List.length_drop, HI.out]; omega
    have hOl : O.length = 64 := by rw [hO]; exact sector_length (by rw [HI.out]; omega)
    rw [show (s.img.drop (64 * 1)).take (64 * a) = b from hb.symm] at HRD
    rw [show (s.img.drop (64 * 0)).take (64 * 1) = O from hO.symm] at HRD0
    rw [hr] at HRM
    have hx := crcSum_lt b
    obtain ⟨x, hxe⟩ : ∃ x, x = crcSum b := ⟨_, rfl⟩
    have hx : x < 4294967296 := by rw [hxe]; simpa using hx
    obtain ⟨H, hHe⟩ : ∃ H, H = s.home := ⟨_, rfl⟩
    have HG := Lib.hid (show jRecover s = if O = jMark 1 x then jRun [DSt.sync, jLay H b, DSt.sync, jLay 0 (jMark 0 x), DSt.sync] s else if O = jMark 0 (saidOf O) then (s, 0) else jRun [jLay 0 (jMark 0 0), DSt.sync] s by unfold jRecover; rw [if_neg hRn, ← ha, ← hb, ← hO, ← hxe, ← hHe])
    rw [← hHe] at HHO hH
    have HX := Lib.hid hxe
    have HBL := Lib.hid hbl
    have HOL := Lib.hid hOl
    clear h hok h3 hr hRn ha hb hO hbl hOl hR hxe hHe
    go_enter Try.func17, Try.ntmps17
    go_wp2_with fail
    refine HRM.out.mono ?_
    rintro r w1 ⟨rfl, rfl⟩
    go_wp2_with fail
    refine (HSZ.out _ (Mod.refl _ _)).mono ?_
    rintro r w1 ⟨rfl, rfl⟩
    go_wp2_with fail
    refine (HAR.out _).mono ?_
    rintro r w1 ⟨rfl, rfl⟩
    go_wp2_with fail
    refine (HRD.out _ (Mod.refl _ _)).mono ?_
    rintro r w2 ⟨A2, c2, rfl, ho2, hm2⟩
    have HO2 := Lib.hid ho2
    have HM2 := Lib.hid hm2
    have HPA := Lib.hid (parts_one (t := 36) (c := c2) (Rd.of_own ho2) HBL.out (by simp only [maxLen]; omega) (g := w2.heap.size) rfl)
    clear ho2 hm2
    go_wp2_with fail
    refine (sum_any All _ 1 1 [b] _ rfl (by omega) HPA.out).mono ?_
    rintro r w3 ⟨rfl, hw3⟩
    have hsum : crcSum [b].flatten = x := by rw [HX.out]; simp
    rw [hsum]
    have HM3 := Lib.hid (show Mod Nil w w3 from hw3 ▸ (HM2.out.alloc _))
    have HO3 := Lib.hid (show w3.ownsRow w.heap.size 5 1 (.slice A2 (64 * a) c2) (64 * a) (b.map bv) from hw3 ▸ own_keep HO2.out ((Mod.refl Nil w2).alloc _) (fun _ _ => id))
    clear hw3 hsum HPA
    go_wp2_with fail
    refine (HRD0.out _ HM3.out).mono ?_
    rintro r w4 ⟨A4, c4, rfl, ho4, hm4⟩
    have HO4 := Lib.hid (show w4.ownsRow w3.heap.size 5 1 (.slice A4 64 c4) 64 (O.map bv) from ho4)
    have HM4 := Lib.hid hm4
    clear ho4 hm4
    go_wp2_with fail
    refine (mark_any2 1 1 x _ rfl (by omega) hx).mono ?_
    rintro r w5 ⟨A5, c5, rfl, ho5, hm5⟩
    have HO5 := Lib.hid ho5
    have HM5 := Lib.hid hm5
    clear ho5 hm5
    go_wp2_with fail
    refine (equal_any _ _ A4 A5 64 c4 64 c5 O (jMark 1 x) _ HOL.out (jMark_len 1 x) (Rd.of_own (own_keep HO4.out HM5.out (fun _ _ => id))) (Rd.of_own HO5.out)).mono ?_
    rintro r w6 ⟨rfl, rfl⟩
    by_cases hq : O = jMark 1 x
    · rw [if_pos hq] at HG
      rw [show decide (O = jMark 1 x) = true by simp [hq]]
      have HQ := Lib.hid hq
      clear hq
      go_wp2_with fail
      refine (HHO.out _ (HM3.out.trans (HM4.out.trans HM5.out))).mono ?_
      rintro r w6 ⟨rfl, rfl⟩
      go_wp2_with fail
      refine (jlay_any w.heap.size g H a (64 * a) c2 A2 b _ (own_keep HO3.out (HM4.out.trans HM5.out) (fun _ _ => id)) rfl (by omega) (by omega) H rfl).mono ?_
      rintro r w6 ⟨cb3, cd3, ca3, rfl, hla3, hge3, hm6⟩
      have HL3 := Lib.hid hla3
      have HG3 := Lib.hid hge3
      have HM6 := Lib.hid hm6
      clear hla3 hge3 hm6
      go_wp2_with fail
      refine (mark_any2 0 0 x _ rfl (by omega) hx).mono ?_
      rintro r w7 ⟨A7, c7, rfl, ho7, hm7⟩
      have HO7 := Lib.hid ho7
      have HM7 := Lib.hid hm7
      clear ho7 hm7
      go_wp2_with fail
      refine (jlay_any w6.heap.size g 0 1 64 c7 A7 (jMark 0 x) _ HO7.out rfl (by omega) (by omega) 0 rfl).mono ?_
      rintro r w8 ⟨cb4, cd4, ca4, rfl, hla4, hge4, hm8⟩
      have HL4 := Lib.hid hla4
      have HG4 := Lib.hid hge4
      have HM8 := Lib.hid hm8
      clear hla4 hge4 hm8
      unfold layV
      go_wp2_with fail
      obtain ⟨cells, hcells⟩ : ∃ cells : Array Value, cells = #[syncV g, layV cb3 cd3 ca3, syncV g, layV cb4 cd4 ca4, syncV g] := ⟨_, rfl⟩
      have hMF : Mod Nil w8 (w8.alloc (.cells cells 87)) := (Mod.refl Nil w8).alloc _
      have hM38 : Mod Nil w3 w8 := HM4.out.trans (HM5.out.trans (HM6.out.trans (HM7.out.trans HM8.out)))
      have z4 := HM4.out.size
      have z5 := HM5.out.size
      have z6 := HM6.out.size
      have z7 := HM7.out.size
      have z3 := HM3.out.size
      have s3 : StepV g F (w8.alloc (.cells cells 87)) (layV cb3 cd3 ca3) (jLay H b) := (HL3.out.keep ((HM7.out.trans HM8.out).trans hMF) ⟨id, id, id⟩ (fun _ _ => id)).step HFL.out (by have := HG3.out; omega)
      have s4 : StepV g F (w8.alloc (.cells cells 87)) (layV cb4 cd4 ca4) (jLay 0 (jMark 0 x)) := (HL4.out.keep hMF ⟨id, id, id⟩ (fun _ _ => id)).step (fun j hj => by have := HFL.out j hj; omega) (by have := HG4.out; omega)
      have sy : StepV g F (w8.alloc (.cells cells 87)) (syncV g) DSt.sync := .inl ⟨rfl, rfl⟩
      have hRD := rd_cells_at w8 cells 87 rfl
      have hMw : Mod Nil w (w8.alloc (.cells cells 87)) := (HM3.out.trans hM38).trans hMF
      have HRUN := run_any B g F (fun j => j = w8.heap.size) s (some ⟨w8.heap.size, 0, none⟩) 5 5 [(syncV g, DSt.sync), (layV cb3 cd3 ca3, jLay H b), (syncV g, DSt.sync), (layV cb4 cd4 ca4, jLay 0 (jMark 0 x)), (syncV g, DSt.sync)] _ (HD.out.keep0 hMw) (Nat.le_trans hB hMw.size) rfl (by omega) (by rw [hcells] at hRD ⊢; exact hRD) (fun j hj hjF => by have := HFL.out j hjF; have := hM38.size; omega) (by
        intro q hq
        simp only [List.mem_cons, List.not_mem_nil, or_false] at hq
        rcases hq with rfl | rfl | rfl | rfl | rfl
        · exact sy
        · exact s3
        · exact sy
        · exact s4
        · exact sy) hbig hl
      have HRUN2 := HRUN.mono (fun _ _ hp => hp.from_ hMw)
      rw [hcells] at HRUN2
      have HRN := Lib.hid HRUN2
      clear HRUN HRUN2 hRD hMw s3 s4 sy hM38 hMF hcells z3 z4 z5 z6 z7
      refine HRN.out.mono ?_
      rintro r w9 ⟨rfl, F9, hd9, hm9, hF9⟩
      have HD9 := Lib.hid hd9
      have HM9 := Lib.hid hm9
      have HF9 := Lib.hid hF9
      clear hd9 hm9 hF9
      go_wp2_with fail
      go_ret
      rw [HG.out]
      exact ⟨rfl, F9, HD9.out, HM9.out, HF9.out⟩
    · rw [if_neg hq] at HG
      rw [show decide (O = jMark 1 x) = false by simp [hq]]
      have HQ := Lib.hid hq
      clear hq
      obtain ⟨g4, c7, hv, hb4, hlt4⟩ := HO4.out.form (by omega)
      injection hv with e1 _ _
      subst e1
      obtain ⟨u0, u1, u2, u3, hu0, hu1, hu2, hu3⟩ : ∃ u0 u1 u2 u3, O[8]? = some u0 ∧ O[9]? = some u1 ∧ O[10]? = some u2 ∧ O[11]? = some u3 := ⟨_, _, _, _, List.getElem?_eq_getElem (by rw [HOL.out]; omega), List.getElem?_eq_getElem (by rw [HOL.out]; omega), List.getElem?_eq_getElem (by rw [HOL.out]; omega), List.getElem?_eq_getElem (by rw [HOL.out]; omega)⟩
      have hcl := (own_keep HO4.out HM5.out (fun _ _ => id)).cells (g := g4) rfl
      have q0 := hcl 8 (bv u0) (by rw [List.getElem?_map, hu0]; rfl)
      have q1 := hcl 9 (bv u1) (by rw [List.getElem?_map, hu1]; rfl)
      have q2 := hcl 10 (bv u2) (by rw [List.getElem?_map, hu2]; rfl)
      have q3 := hcl 11 (bv u3) (by rw [List.getElem?_map, hu3]; rfl)
      unfold bv at q0 q1 q2 q3
      rw [Addr.add_lit, Nat.zero_add] at q0 q1 q2 q3
      have b0 := u0.toNat_lt
      have b1 := u1.toNat_lt
      have b2 := u2.toNat_lt
      have b3 := u3.toNat_lt
      clear hcl
      go_wp2_with (go_quiet (fail))
      rw [said_join]
      obtain ⟨y, hy⟩ : ∃ y, y = u0.toNat + 256 * u1.toNat + 65536 * u2.toNat + 16777216 * u3.toNat := ⟨_, rfl⟩
      have hyl : y < 4294967296 := by omega
      rw [← hy]
      rw [said_of hu0 hu1 hu2 hu3, ← hy] at HG
      clear hy q0 q1 q2 q3 b0 b1 b2 b3 hu0 hu1 hu2 hu3
      have HM6 := Lib.hid (show Mod Nil w5 (w5.drewN nq) from (Mod.refl Nil w5).drewN nq)
      refine (mark_any2 0 0 y _ rfl (by omega) hyl).mono ?_
      rintro r w7 ⟨A7, c8, rfl, ho7, hm7⟩
      have HO7 := Lib.hid ho7
      have HM7 := Lib.hid hm7
      clear ho7 hm7
      go_wp2_with fail
      refine (equal_any _ _ (some ⟨g4, 0, none⟩) A7 64 c7 64 c8 O (jMark 0 y) _ HOL.out (jMark_len 0 y) (Rd.of_own (own_keep HO4.out (HM5.out.trans (HM6.out.trans HM7.out)) (fun _ _ => id))) (Rd.of_own HO7.out)).mono ?_
      rintro r w8 ⟨rfl, rfl⟩
      by_cases hp : O = jMark 0 y
      · rw [if_pos hp] at HG
        rw [show decide (O = jMark 0 y) = true by simp [hp]]
        have HP := Lib.hid hp
        clear hp
        go_wp2_with fail
        go_ret
        rw [HG.out]
        exact (HD.out.keep0 (HM3.out.trans (HM4.out.trans (HM5.out.trans (HM6.out.trans HM7.out))))).post (HM3.out.trans (HM4.out.trans (HM5.out.trans (HM6.out.trans HM7.out)))).any
      · rw [if_neg hp] at HG
        rw [show decide (O = jMark 0 y) = false by simp [hp]]
        have HP := Lib.hid hp
        clear hp
        go_wp2_with fail
        refine (mark_any2 0 0 0 _ rfl (by omega) (by omega)).mono ?_
        rintro r w8 ⟨A8, c9, rfl, ho8, hm8⟩
        have HO8 := Lib.hid ho8
        have HM8 := Lib.hid hm8
        clear ho8 hm8
        go_wp2_with fail
        refine (jlay_any w7.heap.size g 0 1 64 c9 A8 (jMark 0 0) _ HO8.out rfl (by omega) (by omega) 0 rfl).mono ?_
        rintro r w10 ⟨cb4, cd4, ca4, rfl, hla4, hge4, hm9⟩
        have HL4 := Lib.hid hla4
        have HG4 := Lib.hid hge4
        have HM9 := Lib.hid hm9
        clear hla4 hge4 hm9
        unfold layV
        go_wp2_with fail
        obtain ⟨cells, hcells⟩ : ∃ cells : Array Value, cells = #[layV cb4 cd4 ca4, syncV g] := ⟨_, rfl⟩
        have hMF : Mod Nil w10 (w10.alloc (.cells cells 87)) := (Mod.refl Nil w10).alloc _
        have hM : Mod Nil w w7 := HM3.out.trans (HM4.out.trans (HM5.out.trans (HM6.out.trans HM7.out)))
        have z7 := hM.size
        have z8 := HM8.out.size
        have z9 := HM9.out.size
        have s4 : StepV g F (w10.alloc (.cells cells 87)) (layV cb4 cd4 ca4) (jLay 0 (jMark 0 0)) := (HL4.out.keep hMF ⟨id, id, id⟩ (fun _ _ => id)).step (fun j hj => by have := HFL.out j hj; omega) (by have := HG4.out; omega)
        have sy : StepV g F (w10.alloc (.cells cells 87)) (syncV g) DSt.sync := .inl ⟨rfl, rfl⟩
        have hRD := rd_cells_at w10 cells 87 rfl
        have hMw : Mod Nil w (w10.alloc (.cells cells 87)) := (hM.trans (HM8.out.trans HM9.out)).trans hMF
        have HRUN := run_any B g F (fun j => j = w10.heap.size) s (some ⟨w10.heap.size, 0, none⟩) 2 2 [(layV cb4 cd4 ca4, jLay 0 (jMark 0 0)), (syncV g, DSt.sync)] _ (HD.out.keep0 hMw) (Nat.le_trans hB hMw.size) rfl (by omega) (by rw [hcells] at hRD ⊢; exact hRD) (fun j hj hjF => by have := HFL.out j hjF; omega) (by
          intro q hq
          simp only [List.mem_cons, List.not_mem_nil, or_false] at hq
          rcases hq with rfl | rfl
          · exact s4
          · exact sy) hbig hl
        have HRUN2 := HRUN.mono (fun _ _ hp => hp.from_ hMw)
        rw [hcells] at HRUN2
        have HRN := Lib.hid HRUN2
        clear HRUN HRUN2 hRD hMw s4 sy hM hMF hcells z7 z8 z9
        refine HRN.out.mono ?_
        rintro r w11 ⟨rfl, F9, hd9, hm9, hF9⟩
        have HD9 := Lib.hid hd9
        have HM10 := Lib.hid hm9
        have HF9 := Lib.hid hF9
        clear hd9 hm9 hF9
        go_wp2_with fail
        go_ret
        rw [HG.out]
        exact ⟨rfl, F9, HD9.out, HM10.out, HF9.out⟩

end Go.Proofs.Ytjmehamkpmimkaa
