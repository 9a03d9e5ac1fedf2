/- Contracts of journal: lay, Format, Put. -/
import Derived.Test.YtjmehamkpmimkaaJrnL
namespace Go.Proofs.Ytjmehamkpmimkaa
open Go.RowKit

theorem rd_cells_at (w : World) (cs : Array Value) (t : TypeId) {g : Nat} (hg : g = w.heap.size) : Rd (fun j => j = g) (w.alloc (.cells cs t)) (some ⟨g, 0, none⟩) cs.toList := fun _ => by
  subst hg
  exact ⟨_, rfl, rfl, by simp, World.news_of_block (heap_alloc_new w (.cells cs t))⟩

set_option maxHeartbeats 1600000 in
set_option maxRecDepth 100000 in
theorem jlay_any (B0 g k m n c : Nat) (A : Option Addr) (b : List UInt8) (w : World) (ho : w.ownsRow B0 5 1 (.slice A n c) n (b.map bv)) (hn : n = 64 * m) (hm : m ≤ 32768) (hk : k ≤ 70000) (kv : Int) (hkv : kv = k) :
    Calls Try.prog 50 #[.pointer (some ⟨g, 0, none⟩), .int .i64 kv, .slice A n c] w fun r w' => ∃ cb cd ca, r = .returned (layV cb cd ca) ∧ LayAt w' g cb cd ca (fun j => B0 ≤ j ∧ j < w.heap.size) A n c m k b ∧ (w.heap.size ≤ cb ∧ w.heap.size ≤ cd ∧ w.heap.size ≤ ca) ∧ Mod Nil w w' := by
  subst hkv
  have hmf : ∀ (fn : Fn) (first cap : Array Value) (w : World), (Instr.makeFunc fn first cap).run Try.prog w = .ok (.func fn first cap) w := fun _ _ _ _ => rfl
  have HO := Lib.hid ho
  have HNE := Lib.hid hn
  clear ho hn
  go_enter Try.func50, Try.ntmps50
  go_wp2_with fail
  go_ret
  obtain ⟨w3, hw3⟩ : ∃ w3, w3 = ((w.alloc (.cells #[.pointer (some ⟨g, 0, none⟩)] 28)).alloc (.cells #[.int .i64 (k : Int)] 3)).alloc (.cells #[.slice A n c] 36) := ⟨_, rfl⟩
  have hM : Mod Nil w w3 := hw3 ▸ ((((Mod.refl Nil w).alloc _).alloc _).alloc _)
  have hz : w3.heap.size = w.heap.size + 3 := by rw [hw3]; simp
  have b1 : Blk w3 w.heap.size 28 #[.pointer (some ⟨g, 0, none⟩)] := by rw [hw3]; exact ((Blk.new w _ _).alloc _).alloc _
  have b2 : Blk w3 (w.heap.size + 1) 3 #[.int .i64 (k : Int)] := by
    have := (Blk.new (w.alloc (.cells #[.pointer (some ⟨g, 0, none⟩)] 28)) 3 #[.int .i64 (k : Int)]).alloc (.cells #[.slice A n c] 36)
    rw [hw3]
    simpa using this
  have b3 : Blk w3 (w.heap.size + 2) 36 #[.slice A n c] := by
    have := Blk.new ((w.alloc (.cells #[.pointer (some ⟨g, 0, none⟩)] 28)).alloc (.cells #[.int .i64 (k : Int)] 3)) 36 #[.slice A n c]
    rw [hw3]
    simpa using this
  refine ⟨w.heap.size + 2, w.heap.size, w.heap.size + 1, by simp [layV], ?_, ⟨by omega, by omega, by omega⟩, by rw [hw3] at hM; exact hM⟩
  rw [← hw3]
  obtain ⟨A', c', hv, hc1, hc2⟩ := own_slice HO.out
  injection hv with e1 _ e3
  subst e1 e3
  exact ⟨b3.cell 0, b1.cell 0, b2.cell 0, ⟨by omega, by omega, by omega⟩, by have := HO.out.1; simpa using this, HNE.out, hc1, hc2, ((Rd.of_own HO.out).mono (fun j hj hB => ⟨hB, hj⟩)).keep0 hM, fun j hj => by have := hj.2; omega, hm, hk⟩

theorem mark_any2 (kv : Int) (n x : Nat) (w : World) (hkv : kv = n) (hn : n ≤ 1) (hx : x < 4294967296) :
    Calls Try.prog 52 #[.int .i64 kv, .int .u32 (x : Int)] w fun r w' => ∃ A c, r = .returned (.slice A 64 c) ∧ w'.ownsRow w.heap.size 5 1 (.slice A 64 c) 64 ((jMark n x).map bv) ∧ Mod Nil w w' := by
  subst hkv
  refine (mark_any n x w hn hx).mono ?_
  rintro r w' ⟨v, rfl, ho, hm⟩
  obtain ⟨A, c, rfl, _, _⟩ := own_slice ho
  exact ⟨A, c, rfl, ho, hm⟩

theorem DskPost.from_ {B g : Nat} {F : Nat → Prop} {s : DSt} {w w1 w2 : World} {e r : Ending} (h : DskPost B w1 g F s e r w2) (hm : Mod Nil w w1) : DskPost B w g F s e r w2 := by
  obtain ⟨h0, F', h1, h2, h3⟩ := h
  exact ⟨h0, F', h1, hm.any.trans h2, fun k hk => (h3 k hk).elim .inl (fun h => .inr (Nat.le_trans hm.size h))⟩

/-- A step of lay's, told by what it holds, as a step of a disk whose blocks lie below B0. -/
theorem LayAt.step {w : World} {g cb cd ca B0 z : Nat} {F : Nat → Prop} {A : Option Addr} {n c m k : Nat} {b : List UInt8} (h : LayAt w g cb cd ca (fun j => B0 ≤ j ∧ j < z) A n c m k b) (hF : ∀ j, F j → j < B0) (hz : B0 ≤ cb ∧ B0 ≤ cd ∧ B0 ≤ ca) : StepV g F w (layV cb cd ca) (jLay k b) :=
  .inr ⟨cb, cd, ca, _, A, n, c, m, k, b, rfl, rfl, h, ⟨fun hx => by have := hF _ hx; omega, fun hx => by have := hF _ hx; omega, fun hx => by have := hF _ hx; omega⟩, fun j hj hx => by have := hF _ hx; omega⟩

set_option maxHeartbeats 3200000 in
set_option maxRecDepth 100000 in
theorem jput_any (B g : Nat) (F : Nat → Prop) (s : DSt) (A : Option Addr) (n c : Nat) (t : List UInt8) (w : World) (h : DskAt B w g F s) (hB : B ≤ w.heap.size) (ht : t.length = n) (hr : Rd All w A (t.map bv)) (hbig : s.ws.length ≤ 400000) (hl : s.left ≤ 9223372036854775807) :
    Calls Try.prog 16 #[.pointer (some ⟨g, 0, none⟩), .slice A n c] w (DskPost B w g F (jPut t s).1 (.returned (.int .i64 (jPut t s).2))) := by
  have hmf : ∀ (fn : Fn) (first cap : Array Value) (w : World), (Instr.makeFunc fn first cap).run Try.prog w = .ok (.func fn first cap) w := fun _ _ _ _ => rfl
  have HD := Lib.hid h
  have HR := Lib.hid hr
  have HT := Lib.hid ht
  have HF := Lib.hid (fits_any B g F s A n c t w h ht)
  have hsz := h.sized
  have HSZ := Lib.hid hsz
  clear h hr ht hsz
  by_cases hf : jFits s t = 0
  · have HP := Lib.hid (show jPut t s = jRun [jLay 1 (jArea (jA s.secs) t), DSt.sync, jLay 0 (jMark 1 (crcSum (jArea (jA s.secs) t))), DSt.sync, jLay s.home (jArea (jA s.secs) t), DSt.sync, jLay 0 (jMark 0 (crcSum (jArea (jA s.secs) t))), DSt.sync] s by unfold jPut; rw [if_pos hf]; rfl)
    have hroom : n + 12 ≤ 64 * jA s.secs ∧ 4 ≤ s.secs := by
      obtain ⟨p1, p2, _, _⟩ := HSZ.out
      unfold jFits at hf
      by_cases h4 : 4 ≤ s.secs
      · have hr := jRoom_of h4 p2
        rw [hr, HT.out] at hf
        have ha : 1 ≤ jA s.secs := by unfold jA; omega
        rw [if_neg (by omega)] at hf
        by_cases h5 : ((64 * jA s.secs - 12 : Nat) : Int) < (n : Int)
        · rw [if_pos h5] at hf; cases hf
        · exact ⟨by omega, h4⟩
      · have : jRoom s.secs = -1 := by unfold jRoom; rw [if_neg (by omega), if_pos (by omega)]
        rw [this, if_pos (by omega)] at hf
        cases hf
    rw [hf] at HF
    have HAr := Lib.hid (area_any B g F s A n c t w HD.out HT.out hroom.1 HR.out)
    have ha : jA s.secs ≤ 32767 := by have := HSZ.out.2.1; unfold jA; omega
    have hhome : s.home ≤ 70000 := by unfold DSt.home; omega
    obtain ⟨b, hb⟩ : ∃ b, b = jArea (jA s.secs) t := ⟨_, rfl⟩
    have hbl : b.length = 64 * jA s.secs := by rw [hb]; exact jArea_len (by rw [HT.out]; omega)
    have HHO := Lib.hid (fun w' (hw' : Mod Nil w w') => homes_any B g F s w' (HD.out.keep0 hw'))
    obtain ⟨H, hH⟩ : ∃ H, H = s.home := ⟨_, rfl⟩
    obtain ⟨a, ha'⟩ : ∃ a, a = jA s.secs := ⟨_, rfl⟩
    rw [← hb, ← ha'] at HAr
    rw [← hb, ← hH] at HP
    rw [← hH] at HHO hhome
    rw [← ha'] at hbl ha
    have hx := crcSum_lt b
    obtain ⟨x, hxe⟩ : ∃ x, x = crcSum b := ⟨_, rfl⟩
    have hx : x < 4294967296 := by rw [hxe]; simpa using hx
    have HX := Lib.hid hxe
    rw [← hxe] at HP
    have HBL := Lib.hid hbl
    have HFL := Lib.hid (fun j hj => (HD.out.lt j hj).2)
    clear hf hroom hb hH ha' hbl hxe
    go_enter Try.func16, Try.ntmps16
    go_wp2_with fail
    refine HF.out.mono ?_
    rintro r w1 ⟨rfl, rfl⟩
    go_wp2_with fail
    refine HAr.out.mono ?_
    rintro r w1 ⟨v1, rfl, ho1, hm1⟩
    obtain ⟨A1, c1, rfl, _, _⟩ := own_slice ho1
    have HO1 := Lib.hid ho1
    have HM1 := Lib.hid hm1
    have HPA := Lib.hid (parts_one (t := 36) (c := c1) (Rd.of_own ho1) HBL.out (by simp only [maxLen]; omega) (g := w1.heap.size) rfl)
    clear ho1 hm1
    go_wp2_with fail
    refine (sum_any All _ 1 1 [b] _ rfl (by omega) HPA.out).mono ?_
    rintro r w2 ⟨rfl, hw2⟩
    have hsum : crcSum [b].flatten = x := by rw [HX.out]; simp
    rw [hsum]
    have HM2 := Lib.hid (show Mod Nil w w2 from hw2 ▸ (HM1.out.alloc _))
    have HO2 := Lib.hid (show w2.ownsRow w.heap.size 5 1 (.slice A1 (64 * a) c1) (64 * a) (b.map bv) from hw2 ▸ own_keep HO1.out ((Mod.refl Nil w1).alloc _) (fun _ _ => id))
    clear hw2 hsum
    go_wp2_with fail
    refine (jlay_any w.heap.size g 1 a (64 * a) c1 A1 b _ HO2.out rfl (by omega) (by omega) 1 rfl).mono ?_
    rintro r w3 ⟨cb1, cd1, ca1, rfl, hla1, hge1, hm3⟩
    have HL1 := Lib.hid hla1
    have HG1 := Lib.hid hge1
    have HM3 := Lib.hid hm3
    clear hla1 hge1 hm3
    go_wp2_with fail
    refine (mark_any2 1 1 x _ rfl (by omega) hx).mono ?_
    rintro r w4 ⟨A4, c4, rfl, ho4, hm4⟩
    have HO4 := Lib.hid ho4
    have HM4 := Lib.hid hm4
    clear ho4 hm4
    go_wp2_with fail
    refine (jlay_any w3.heap.size g 0 1 64 c4 A4 (jMark 1 x) _ HO4.out rfl (by omega) (by omega) 0 rfl).mono ?_
    rintro r w5 ⟨cb2, cd2, ca2, rfl, hla2, hge2, hm5⟩
    have HL2 := Lib.hid hla2
    have HG2 := Lib.hid hge2
    have HM5 := Lib.hid hm5
    clear hla2 hge2 hm5
    go_wp2_with fail
    refine (HHO.out _ (HM2.out.trans (HM3.out.trans (HM4.out.trans HM5.out)))).mono ?_
    rintro r w6 ⟨rfl, rfl⟩
    go_wp2_with fail
    refine (jlay_any w.heap.size g H a (64 * a) c1 A1 b _ (own_keep HO2.out (HM3.out.trans (HM4.out.trans HM5.out)) (fun _ _ => id)) rfl (by omega) (by omega) H rfl).mono ?_
    rintro r w6 ⟨cb3, cd3, ca3, rfl, hla3, hge3, hm6⟩
    have HL3 := Lib.hid hla3
    have HG3 := Lib.hid hge3
    have HM6 := Lib.hid hm6
    clear hla3 hge3 hm6
    go_wp2_with fail
    refine (mark_any2 0 0 x _ rfl (by omega) hx).mono ?_
    rintro r w7 ⟨A7, c7, rfl, ho7, hm7⟩
    have HO7 := Lib.hid ho7
    have HM7 := Lib.hid hm7
    clear ho7 hm7
    go_wp2_with fail
    refine (jlay_any w6.heap.size g 0 1 64 c7 A7 (jMark 0 x) _ HO7.out rfl (by omega) (by omega) 0 rfl).mono ?_
    rintro r w8 ⟨cb4, cd4, ca4, rfl, hla4, hge4, hm8⟩
    have HL4 := Lib.hid hla4
    have HG4 := Lib.hid hge4
    have HM8 := Lib.hid hm8
    clear hla4 hge4 hm8
    unfold layV
    go_wp2_with fail
    obtain ⟨cells, hcells⟩ : ∃ cells : Array Value, cells = #[layV cb1 cd1 ca1, syncV g, layV cb2 cd2 ca2, syncV g, layV cb3 cd3 ca3, syncV g, layV cb4 cd4 ca4, syncV g] := ⟨_, rfl⟩
    have hMF : Mod Nil w8 (w8.alloc (.cells cells 87)) := (Mod.refl Nil w8).alloc _
    have hM28 : Mod Nil w2 w8 := HM3.out.trans (HM4.out.trans (HM5.out.trans (HM6.out.trans (HM7.out.trans HM8.out))))
    have z3 := HM3.out.size
    have z4 := HM4.out.size
    have z5 := HM5.out.size
    have z6 := HM6.out.size
    have z7 := HM7.out.size
    have z2 := HM2.out.size
    have s1 : StepV g F (w8.alloc (.cells cells 87)) (layV cb1 cd1 ca1) (jLay 1 b) := (HL1.out.keep ((HM4.out.trans (HM5.out.trans (HM6.out.trans (HM7.out.trans HM8.out)))).trans hMF) ⟨id, id, id⟩ (fun _ _ => id)).step HFL.out (by have := HG1.out; omega)
    have s2 : StepV g F (w8.alloc (.cells cells 87)) (layV cb2 cd2 ca2) (jLay 0 (jMark 1 x)) := (HL2.out.keep ((HM6.out.trans (HM7.out.trans HM8.out)).trans hMF) ⟨id, id, id⟩ (fun _ _ => id)).step (fun j hj => by have := HFL.out j hj; omega) (by have := HG2.out; omega)
    have s3 : StepV g F (w8.alloc (.cells cells 87)) (layV cb3 cd3 ca3) (jLay H b) := (HL3.out.keep ((HM7.out.trans HM8.out).trans hMF) ⟨id, id, id⟩ (fun _ _ => id)).step HFL.out (by have := HG3.out; omega)
    have s4 : StepV g F (w8.alloc (.cells cells 87)) (layV cb4 cd4 ca4) (jLay 0 (jMark 0 x)) := (HL4.out.keep hMF ⟨id, id, id⟩ (fun _ _ => id)).step (fun j hj => by have := HFL.out j hj; omega) (by have := HG4.out; omega)
    have sy : StepV g F (w8.alloc (.cells cells 87)) (syncV g) DSt.sync := .inl ⟨rfl, rfl⟩
    have hRD := rd_cells_at w8 cells 87 rfl
    have hMw : Mod Nil w (w8.alloc (.cells cells 87)) := (HM2.out.trans hM28).trans hMF
    have HRUN := run_any B g F (fun j => j = w8.heap.size) s (some ⟨w8.heap.size, 0, none⟩) 8 8 [(layV cb1 cd1 ca1, jLay 1 b), (syncV g, DSt.sync), (layV cb2 cd2 ca2, jLay 0 (jMark 1 x)), (syncV g, DSt.sync), (layV cb3 cd3 ca3, jLay H b), (syncV g, DSt.sync), (layV cb4 cd4 ca4, jLay 0 (jMark 0 x)), (syncV g, DSt.sync)] _ (HD.out.keep0 hMw) (Nat.le_trans hB hMw.size) rfl (by omega) (by rw [hcells] at hRD ⊢; exact hRD) (fun j hj hjF => by have := HFL.out j hjF; have := hM28.size; omega) (by
      intro q hq
      simp only [List.mem_cons, List.not_mem_nil, or_false] at hq
      rcases hq with rfl | rfl | rfl | rfl | rfl | rfl | rfl | rfl
      · exact s1
      · exact sy
      · exact s2
      · exact sy
      · exact s3
      · exact sy
      · exact s4
      · exact sy) hbig hl
    have HRUN2 := HRUN.mono (fun _ _ hp => hp.from_ hMw)
    rw [hcells] at HRUN2
    have HRN := Lib.hid HRUN2
    clear HRUN HRUN2 hRD hMw s1 s2 s3 s4 sy hM28 hMF hcells z2 z3 z4 z5 z6 z7
    refine HRN.out.mono ?_
    rintro r w9 ⟨rfl, F9, hd9, hm9, hF9⟩
    have HD9 := Lib.hid hd9
    have HM9 := Lib.hid hm9
    have HF9 := Lib.hid hF9
    clear hd9 hm9 hF9
    go_wp2_with fail
    go_ret
    rw [HP.out]
    exact ⟨rfl, F9, HD9.out, HM9.out, HF9.out⟩
  · have HP := Lib.hid (show jPut t s = (s, jFits s t) by unfold jPut; rw [if_neg hf])
    have he0 : (jFits s t != 0) = true := by simp [hf]
    have HEN := Lib.hid hf
    clear hf
    go_enter Try.func16, Try.ntmps16
    go_wp2_with fail
    refine HF.out.mono ?_
    rintro r w1 ⟨rfl, rfl⟩
    go_wp2_with fail
    go_ret
    rw [HP.out]
    exact HD.out.post (Mod.refl _ _)

end Go.Proofs.Ytjmehamkpmimkaa
