/- Contracts of journal: area, mark. -/
import Derived.Test.YtjmehamkpmimkaaJrnX
namespace Go.Proofs.Ytjmehamkpmimkaa
open Go.RowKit

theorem wr_new2 (w : World) : WrAt w.heap.size (w.alloc (.cells #[.slice none 0 0, .int .i64 0] 131)) w.heap.size (.slice none 0 0) ([], 0) :=
  ⟨Blk.new _ _ _, World.ownsRow_nil _ _ _ _, Nat.le_refl _⟩
theorem wNum_nat (n : Nat) (l : List UInt8) (h : n ≤ 2147483647) : wNum (n : Int) (l, 0) = (l ++ beBytes 4 n, 0) := by
  unfold wNum wPut
  rw [if_neg (by omega)]
  rfl
theorem zeros_bv (k : Nat) : List.replicate k (Value.int .u8 0) = (List.replicate k (0 : UInt8)).map bv := by simp [bv]
theorem splice_zero (x : List UInt8) (N : Nat) : splice (List.replicate N (0 : UInt8)) 0 x = x ++ List.replicate (N - x.length) 0 := by
  unfold splice
  simp

set_option maxHeartbeats 1600000 in
set_option maxRecDepth 100000 in
theorem area_any (B g : Nat) (F : Nat → Prop) (s : DSt) (A : Option Addr) (n c : Nat) (t : List UInt8) (w : World) (h : DskAt B w g F s) (ht : t.length = n) (hfit : n + 12 ≤ 64 * jA s.secs) (hr : Rd All w A (t.map bv)) :
    Calls Try.prog 47 #[.pointer (some ⟨g, 0, none⟩), .slice A n c] w fun r w' => ∃ v, r = .returned v ∧ w'.ownsRow w.heap.size 5 1 v (64 * jA s.secs) ((jArea (jA s.secs) t).map bv) ∧ Mod Nil w w' := by
  obtain ⟨i0, hi, hz0, hz1, hz2⟩ := info_parts u8_info
  obtain ⟨h1, h2, h3, _⟩ := h.sized
  have hj : jA s.secs ≤ 32767 := by unfold jA; omega
  have HD := Lib.hid h
  have HR := Lib.hid hr
  have HT := Lib.hid ht
  have HW := Lib.hid (wr_new2 w)
  obtain ⟨M, hM⟩ : ∃ M, M = s.secs := ⟨_, rfl⟩
  obtain ⟨a, ha⟩ : ∃ a, a = jA s.secs := ⟨_, rfl⟩
  rw [← ha] at hfit hj ⊢
  have HA := Lib.hid (fun w' : World => areas_any s.secs w' h1 h2)
  rw [← ha] at HA
  have HMM := Lib.hid hM
  have HC := Lib.hid (wnum_any w.heap.size w.heap.size _ ([], 0) n _ HW.out (by simp) (by simp))
  rw [wNum_nat n [] (by omega), List.nil_append] at HC
  have hbl := beBytes_len 4 n
  clear h hr ht ha hM h1 h2 h3
  go_enter Try.func47, Try.ntmps47
  go_wp2_with fail
  refine HC.out.mono ?_
  rintro r w1 ⟨rfl, v1, hw1, hm1, _⟩
  have hM01 : Mod Nil w w1 := ((Mod.refl Nil w).alloc _).trans' hm1 (fun _ _ h => h) (fun i hi hf => by have := WriterAt.low HW.out i hf; omega)
  have HW1 := Lib.hid hw1
  have HM1 := Lib.hid hM01
  clear hw1 hm1 hM01
  go_wp2_with fail
  refine (dskSize_any B g F s _ (HD.out.keep0 HM1.out)).mono ?_
  rintro r w2 ⟨rfl, rfl⟩
  go_wp2_with fail
  refine (HA.out _).mono ?_
  rintro r w2 ⟨rfl, rfl⟩
  go_wp2_with (at_make; refine wpList_make_full _ rfl (.tmp 13) (.tmp 13) 36 rfl w.heap.size 5 i0 (.int .u8 0) 1 Try.underlying36 hi hz0 hz1 .i64 .i64 ((a : Int) * 64) ((a : Int) * 64) (64 * a) rfl rfl (by omega) (by omega) (by rw [hz2]; omega) (by simp only [maxLen]; omega) HM1.out.size ?_; intro w2 ho2 hg2; rw [madeCells_u8] at ho2; have HO2 := Lib.hid ho2; have HM2 := Lib.hid ((Mod.of_grown hg2).mono (G := Nil) (fun _ _ h => by cases h)); clear ho2 hg2)
  refine (wbytes_any w.heap.size w.heap.size v1 (beBytes 4 n, 0) _ (WrAt.keep HW1.out HM2.out (fun _ _ => id)) (by simp [beBytes_len])).mono ?_
  rintro r w3 ⟨v3, rfl, hown3, hm3⟩
  obtain ⟨A3, c3, rfl, _, _⟩ := own_slice hown3
  have HO3 := Lib.hid hown3
  have HM3 := Lib.hid (HM2.out.trans hm3)
  have HZ3 := Lib.hid hm3.size
  have HM23 := Lib.hid hm3
  rw [hbl] at HO3
  rw [hbl]
  clear hown3 hm3
  go_wp2_with (first
    | (at_builtin
       refine wpList_append1' _ rfl (.tmp 16) (.tmp 17) 36 rfl w2.heap.size 5 i0 (.int .u8 0) 1 Try.underlying36 hi hz0 hz1 hz2 rfl (.slice A3 4 c3) 4 ((beBytes 4 n).map bv) rfl HO3.out All A n c (t.map bv) rfl (by rw [List.length_map, HT.out]) (HR.out.keep0 (HM1.out.trans HM3.out)) (bv_one t) (by omega) (by simp only [maxLen]; omega) HZ3.out ?_
       intro A4 c4 w4 hown4 hmod4 hat4
       have hx : (beBytes 4 n).map bv ++ t.map bv = (beBytes 4 n ++ t).map bv := by rw [List.map_append]
       rw [hx] at hown4
       obtain ⟨g4, c5, hv, hb4, hlt4⟩ := hown4.form (by omega)
       injection hv with hA4 _ _
       subst hA4
       have HOW4 := Lib.hid hown4
       have HM24 := Lib.hid (show Mod Nil w2 w4 from HM23.out.trans' hmod4 (fun _ _ h => h) (fun j hj hjv => by have := (HO3.out.lt j hjv).1; omega))
       have HO24 := Lib.hid (own_keep HO2.out HM24.out (fun _ _ => id))
       obtain ⟨cur, hcur, _, _, hcs, _⟩ := own_heap HO24.out
       have HCUR := Lib.hid hcur
       have HCS := Lib.hid hcs
       have HLEN := Lib.hid (show (beBytes 4 n ++ t).length = 4 + n by rw [List.length_append, hbl, HT.out])
       clear hown4 hmod4 hat4 hx hcur hcs)
    | (refine wpList_copy1 rfl (.tmp 15) (.tmp 18) 36 36 rfl 5 Try.underlying36 (by rw [hi]; simp [hz1]) (64 * a) (64 * a) ⟨g4, 0, none⟩ (4 + n) c4 w1.heap.size 0 rfl rfl cur.toList 5 (by simpa using HCUR.out) ((beBytes 4 n ++ t).map bv) (by rw [List.length_map, HLEN.out]; exact (Nat.min_eq_left (by omega)).symm) (by rw [List.length_map, HLEN.out]; omega) (HOW4.out.cells (g := g4) rfl) (by rw [List.length_map, HLEN.out, Array.length_toList]; have := HCS.out; omega) (bv_one _) ?_
       intro w5 hg5 hm5))
  go_ret
  have hfin := own_splice (cs := (beBytes 4 n ++ t).map bv) (off := 0) HO24.out HCUR.out hg5.out (by rw [List.length_map, HLEN.out]; omega)
  rw [← splice_map, splice_zero, HLEN.out, show beBytes 4 n ++ t ++ List.replicate (64 * a - (4 + n)) 0 = jArea a t by unfold jArea; rw [HT.out]] at hfin
  refine ⟨_, rfl, hfin, HM1.out.trans' ((HM2.out.trans HM24.out).any (F := fun k => k = w1.heap.size) |>.trans hm5.out) (fun _ _ h => h) (fun k hk hkg => by have := HM1.out.size; omega)⟩

set_option maxHeartbeats 1600000 in
set_option maxRecDepth 100000 in
theorem mark_any (n x : Nat) (w : World) (hn : n ≤ 1) (hx : x < 4294967296) :
    Calls Try.prog 52 #[.int .i64 (n : Int), .int .u32 (x : Int)] w fun r w' => ∃ v, r = .returned v ∧ w'.ownsRow w.heap.size 5 1 v 64 ((jMark n x).map bv) ∧ Mod Nil w w' := by
  obtain ⟨i0, hi, hz0, hz1, hz2⟩ := info_parts u8_info
  have HW := Lib.hid (wr_new2 w)
  have HX := Lib.hid hx
  have HC := Lib.hid (wnum_any w.heap.size w.heap.size _ ([], 0) ((1297043028 : Nat) : Int) _ HW.out (by simp) (by simp))
  rw [wNum_nat 1297043028 [] (by omega), List.nil_append] at HC
  go_enter Try.func52, Try.ntmps52
  go_wp2_with fail
  refine HC.out.mono ?_
  rintro r w1 ⟨rfl, v1, hw1, hm1, _⟩
  have hM01 : Mod Nil w w1 := ((Mod.refl Nil w).alloc _).trans' hm1 (fun _ _ h => h) (fun i hi hf => by have := WriterAt.low HW.out i hf; omega)
  have HW1 := Lib.hid hw1
  have HM1 := Lib.hid hM01
  clear hw1 hm1 hM01
  have HC2 := Lib.hid (wnum_any w.heap.size w.heap.size v1 (beBytes 4 1297043028, 0) (n : Int) _ HW1.out HM1.out.size (by simp [beBytes_len]))
  rw [wNum_nat n _ (by omega)] at HC2
  go_wp2_with fail
  refine HC2.out.mono ?_
  rintro r w2 ⟨rfl, v2, hw2, hm2, _⟩
  have HM2 := Lib.hid (show Mod Nil w w2 from HM1.out.trans' hm2 (fun _ _ h => h) (fun i hi hf => by have := WriterAt.low HW1.out i hf; omega))
  have HW2 := Lib.hid hw2
  clear hw2 hm2
  go_wp2_with fail
  refine (wbytes_any w.heap.size w.heap.size v2 (beBytes 4 1297043028 ++ beBytes 4 n, 0) _ HW2.out (by simp [beBytes_len])).mono ?_
  rintro r w3 ⟨v3, rfl, hown3, hm3⟩
  obtain ⟨A3, c3, rfl, _, _⟩ := own_slice hown3
  have h8 : (beBytes 4 1297043028 ++ beBytes 4 n).length = 8 := by simp [beBytes_len]
  have HO3 := Lib.hid hown3
  have HM3 := Lib.hid (HM2.out.trans hm3)
  have HZ3 := Lib.hid hm3.size
  rw [h8] at HO3
  rw [h8]
  have hrd := Rd.cells w3 #[Value.int IntKind.u8 ((x : Int) % 256), Value.int IntKind.u8 ((x : Int) / 256 % 256), Value.int IntKind.u8 ((x : Int) / 65536 % 256), Value.int IntKind.u8 ((x : Int) / 16777216)] 5 (0, 0) rfl
  rw [← sumOctets_cells x hx] at hrd
  have HRD := Lib.hid hrd
  clear hown3 hm3 h8 hrd
  go_wp2_with (first
    | (at_builtin
       refine wpList_append1' _ rfl (.tmp 10) (.tmp 22) 36 rfl w2.heap.size 5 i0 (.int .u8 0) 1 Try.underlying36 hi hz0 hz1 hz2 rfl (.slice A3 8 c3) 8 ((beBytes 4 1297043028 ++ beBytes 4 n).map bv) rfl (own_keep HO3.out ((Mod.refl Nil w3).alloc _) (fun _ _ => id)) All (some ⟨w3.heap.size, 0, none⟩) 4 4 ((sumOctets x).map bv) rfl (by simp [sumOctets]) HRD.out (bv_one _) (by omega) (by simp only [maxLen]; omega) (by have := HZ3.out; simp; omega) ?_
       intro A4 c4 w4 hown4 hmod4 hat4
       rw [← List.map_append] at hown4
       have HO4 := Lib.hid hown4
       have HM4 := Lib.hid (show Mod Nil w w4 from (HM3.out.alloc _).trans' hmod4 (fun _ _ h => h) (fun j hj hjv => by have := (HO3.out.lt j hjv).1; have := HM2.out.size; omega))
       have HZ4 := Lib.hid hmod4.size
       have HA4 := Lib.hid (show ∀ j, (Value.slice A4 12 c4).ownBlock = some j → w.heap.size ≤ j from fun j hj => by have := (hown4.lt j hj).1; have := HM2.out.size; omega)
       clear hown4 hmod4 hat4)
    | (at_builtin
       refine wpList_append_zeros rfl (.tmp 24) (.const (.int .i64 48)) 36 3 rfl w2.heap.size 5 i0 .i64 .i64 Try.underlying36 Try.underlying3 hi hz0 hz1 hz2 (.slice A4 12 c4) 12 ((beBytes 4 1297043028 ++ beBytes 4 n ++ sumOctets x).map bv) rfl HO4.out (by omega) 48 rfl (by omega) (by omega) (by omega) (by have := HZ4.out; have := HZ3.out; simp at *; omega) ?_
       intro A5 c5 w5 hown5 hmod5 hat5
       rw [zeros_bv, ← List.map_append] at hown5
       have HO5 := Lib.hid hown5
       have HM5 := Lib.hid (show Mod Nil w w5 from HM4.out.trans' hmod5 (fun _ _ h => h) (fun j hj hjv => by have := HA4.out j hjv; omega))
       clear hown5 hmod5 hat5))
  refine (seal_any _ A5 60 c5 _ _ (by simp [beBytes_len, sumOctets_len]) (by omega) (Rd.of_own HO5.out)).mono ?_
  rintro r w6 ⟨v6, rfl, ho6, hm6⟩
  have HO6 := Lib.hid ho6
  have HM6 := Lib.hid (HM5.out.trans hm6)
  have HZ6 := Lib.hid HM5.out.size
  clear ho6 hm6
  go_wp2_with fail
  go_ret
  exact ⟨_, rfl, own_base HO6.out HZ6.out, HM6.out⟩

end Go.Proofs.Ytjmehamkpmimkaa
