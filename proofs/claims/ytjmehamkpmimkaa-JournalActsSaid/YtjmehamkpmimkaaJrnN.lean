/- Contracts of journal: Format, read. -/
import Derived.Test.YtjmehamkpmimkaaJrnM
namespace Go.Proofs.Ytjmehamkpmimkaa
open Go.RowKit

set_option maxHeartbeats 3200000 in
set_option maxRecDepth 100000 in
theorem jformat_any (B g : Nat) (F : Nat → Prop) (s : DSt) (A : Option Addr) (n c : Nat) (t : List UInt8) (w : World) (h : DskAt B w g F s) (hB : B ≤ w.heap.size) (ht : t.length = n) (hr : Rd All w A (t.map bv)) (hbig : s.ws.length ≤ 400000) (hl : s.left ≤ 9223372036854775807) :
    Calls Try.prog 24 #[.pointer (some ⟨g, 0, none⟩), .slice A n c] w (DskPost B w g F (jFormat t s).1 (.returned (.int .i64 (jFormat t s).2))) := by
  have hmf : ∀ (fn : Fn) (first cap : Array Value) (w : World), (Instr.makeFunc fn first cap).run Try.prog w = .ok (.func fn first cap) w := fun _ _ _ _ => rfl
  have HD := Lib.hid h
  have HR := Lib.hid hr
  have HT := Lib.hid ht
  have HF := Lib.hid (fits_any B g F s A n c t w h ht)
  have hsz := h.sized
  have HSZ := Lib.hid hsz
  clear h hr ht hsz
  by_cases hf : jFits s t = 0
  · have HP := Lib.hid (show jFormat t s = jRun [jLay s.home (jArea (jA s.secs) t), DSt.sync, jLay 0 (jMark 0 0), DSt.sync] s by unfold jFormat; rw [if_pos hf])
    have hroom : n + 12 ≤ 64 * jA s.secs ∧ 4 ≤ s.secs := by
      obtain ⟨p1, p2, _, _⟩ := HSZ.out
      unfold jFits at hf
      by_cases h4 : 4 ≤ s.secs
      · have hr := jRoom_of h4 p2
        rw [hr, HT.out] at hf
        have ha : 1 ≤ jA s.secs := by unfold jA; omega
        rw [if_neg (by omega)] at hf
        by_cases h5 : ((64 * jA s.secs - 12 : Nat) : Int) < (n : Int)
        · rw [if_pos h5] at hf; cases hf
        · exact ⟨by omega, h4⟩
      · have : jRoom s.secs = -1 := by unfold jRoom; rw [if_neg (by omega), if_pos (by omega)]
        rw [this, if_pos (by omega)] at hf
        cases hf
    rw [hf] at HF
    have HAr := Lib.hid (fun w' (hw' : Mod Nil w w') => area_any B g F s A n c t w' (HD.out.keep0 hw') HT.out hroom.1 (HR.out.keep0 hw'))
    have ha : jA s.secs ≤ 32767 := by have := HSZ.out.2.1; unfold jA; omega
    have hhome : s.home ≤ 70000 := by unfold DSt.home; omega
    obtain ⟨b, hb⟩ : ∃ b, b = jArea (jA s.secs) t := ⟨_, rfl⟩
    have hbl : b.length = 64 * jA s.secs := by rw [hb]; exact jArea_len (by rw [HT.out]; omega)
    have HHO := Lib.hid (fun w' (hw' : Mod Nil w w') => homes_any B g F s w' (HD.out.keep0 hw'))
    obtain ⟨H, hH⟩ : ∃ H, H = s.home := ⟨_, rfl⟩
    obtain ⟨a, ha'⟩ : ∃ a, a = jA s.secs := ⟨_, rfl⟩
    rw [← hb, ← ha'] at HAr
    rw [← hb, ← hH] at HP
    rw [← hH] at HHO hhome
    rw [← ha'] at hbl ha
    have HBL := Lib.hid hbl
    have HFL := Lib.hid (fun j hj => (HD.out.lt j hj).2)
    clear hf hroom hb hH ha' hbl
    go_enter Try.func24, Try.ntmps24
    go_wp2_with fail
    refine HF.out.mono ?_
    rintro r w1 ⟨rfl, rfl⟩
    go_wp2_with fail
    refine (HHO.out _ (Mod.refl _ _)).mono ?_
    rintro r w1 ⟨rfl, rfl⟩
    go_wp2_with fail
    refine (HAr.out _ (Mod.refl _ _)).mono ?_
    rintro r w2 ⟨v1, rfl, ho1, hm1⟩
    obtain ⟨A1, c1, rfl, _, _⟩ := own_slice ho1
    have HO2 := Lib.hid ho1
    have HM2 := Lib.hid hm1
    clear ho1 hm1
    go_wp2_with fail
    refine (jlay_any _ g H a (64 * a) c1 A1 b _ HO2.out rfl (by omega) (by omega) H rfl).mono ?_
    rintro r w3 ⟨cb1, cd1, ca1, rfl, hla1, hge1, hm3⟩
    have HL1 := Lib.hid hla1
    have HG1 := Lib.hid hge1
    have HM3 := Lib.hid hm3
    clear hla1 hge1 hm3
    go_wp2_with fail
    refine (mark_any2 0 0 0 _ rfl (by omega) (by omega)).mono ?_
    rintro r w4 ⟨A4, c4, rfl, ho4, hm4⟩
    have HO4 := Lib.hid ho4
    have HM4 := Lib.hid hm4
    clear ho4 hm4
    go_wp2_with fail
    refine (jlay_any w3.heap.size g 0 1 64 c4 A4 (jMark 0 0) _ HO4.out rfl (by omega) (by omega) 0 rfl).mono ?_
    rintro r w8 ⟨cb2, cd2, ca2, rfl, hla2, hge2, hm5⟩
    have HL2 := Lib.hid hla2
    have HG2 := Lib.hid hge2
    have HM5 := Lib.hid hm5
    clear hla2 hge2 hm5
    unfold layV
    go_wp2_with fail
    obtain ⟨cells, hcells⟩ : ∃ cells : Array Value, cells = #[layV cb1 cd1 ca1, syncV g, layV cb2 cd2 ca2, syncV g] := ⟨_, rfl⟩
    have hMF : Mod Nil w8 (w8.alloc (.cells cells 87)) := (Mod.refl Nil w8).alloc _
    have hM28 : Mod Nil w2 w8 := HM3.out.trans (HM4.out.trans HM5.out)
    have z3 := HM3.out.size
    have z4 := HM4.out.size
    have z2 := HM2.out.size
    have s1 : StepV g F (w8.alloc (.cells cells 87)) (layV cb1 cd1 ca1) (jLay H b) := (HL1.out.keep ((HM4.out.trans HM5.out).trans hMF) ⟨id, id, id⟩ (fun _ _ => id)).step HFL.out (by have := HG1.out; omega)
    have s2 : StepV g F (w8.alloc (.cells cells 87)) (layV cb2 cd2 ca2) (jLay 0 (jMark 0 0)) := (HL2.out.keep hMF ⟨id, id, id⟩ (fun _ _ => id)).step (fun j hj => by have := HFL.out j hj; omega) (by have := HG2.out; omega)
    have sy : StepV g F (w8.alloc (.cells cells 87)) (syncV g) DSt.sync := .inl ⟨rfl, rfl⟩
    have hRD := rd_cells_at w8 cells 87 rfl
    have hMw : Mod Nil w (w8.alloc (.cells cells 87)) := (HM2.out.trans hM28).trans hMF
    have HRUN := run_any B g F (fun j => j = w8.heap.size) s (some ⟨w8.heap.size, 0, none⟩) 4 4 [(layV cb1 cd1 ca1, jLay H b), (syncV g, DSt.sync), (layV cb2 cd2 ca2, jLay 0 (jMark 0 0)), (syncV g, DSt.sync)] _ (HD.out.keep0 hMw) (Nat.le_trans hB hMw.size) rfl (by omega) (by rw [hcells] at hRD ⊢; exact hRD) (fun j hj hjF => by have := HFL.out j hjF; have := hM28.size; omega) (by
      intro q hq
      simp only [List.mem_cons, List.not_mem_nil, or_false] at hq
      rcases hq with rfl | rfl | rfl | rfl
      · exact s1
      · exact sy
      · exact s2
      · exact sy) hbig hl
    have HRUN2 := HRUN.mono (fun _ _ hp => hp.from_ hMw)
    rw [hcells] at HRUN2
    have HRN := Lib.hid HRUN2
    clear HRUN HRUN2 hRD hMw s1 s2 sy hM28 hMF hcells z2 z3 z4
    refine HRN.out.mono ?_
    rintro r w9 ⟨rfl, F9, hd9, hm9, hF9⟩
    have HD9 := Lib.hid hd9
    have HM9 := Lib.hid hm9
    have HF9 := Lib.hid hF9
    clear hd9 hm9 hF9
    go_wp2_with fail
    go_ret
    rw [HP.out]
    exact ⟨rfl, F9, HD9.out, HM9.out, HF9.out⟩
  · have HP := Lib.hid (show jFormat t s = (s, jFits s t) by unfold jFormat; rw [if_neg hf])
    have he0 : (jFits s t != 0) = true := by simp [hf]
    have HEN := Lib.hid hf
    clear hf
    go_enter Try.func24, Try.ntmps24
    go_wp2_with fail
    refine HF.out.mono ?_
    rintro r w1 ⟨rfl, rfl⟩
    go_wp2_with fail
    go_ret
    rw [HP.out]
    exact HD.out.post (Mod.refl _ _)


theorem jput_nil (A : Option Addr) (n c : Nat) (w : World) : Calls Try.prog 16 #[.pointer none, .slice A n c] w fun r w' => r = .returned (.int .i64 2) ∧ w = w' := by
  go_enter Try.func16, Try.ntmps16
  go_wp2_with fail
  refine (fits_nil A n c _).mono ?_
  rintro r w1 ⟨rfl, rfl⟩
  go_wp2_with fail
  go_ret
  exact ⟨rfl, rfl⟩
theorem jrecover_nil (w : World) : Calls Try.prog 17 #[.pointer none] w fun r w' => r = .returned (.int .i64 2) ∧ w = w' := by
  go_enter Try.func17, Try.ntmps17
  go_wp2_with fail
  refine (room_nil _).mono ?_
  rintro r w1 ⟨rfl, rfl⟩
  go_wp2_with fail
  go_ret
  exact ⟨rfl, rfl⟩

end Go.Proofs.Ytjmehamkpmimkaa
