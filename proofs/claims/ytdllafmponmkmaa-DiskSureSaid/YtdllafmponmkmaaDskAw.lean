/- law03.awake; ref03.Noughts. -/
import Derived.Test.YtdllafmponmkmaaDskC
namespace Go.Proofs.Ytdllafmponmkmaa
open Go.RowKit

theorem str_append' (a b : List UInt8) : str a ++ ⟨b.toArray⟩ = str (a ++ b) := str_append a b

set_option maxHeartbeats 1600000 in
set_option maxRecDepth 100000 in
theorem noughts_any (n : Nat) (w : World) (hn : n ≤ 1000000000) :
    Calls Try.prog 50 #[.int .i64 n] w fun r w' => r = .returned (.string (str (List.replicate n 0))) ∧ Mod Nil w w' := by
  obtain ⟨i0, hi, hz0, hz1, hz2⟩ := info_parts u8_info
  have hcv : ∀ (w1 : World), w1.ownsRow w.heap.size 5 1 (.slice (some ⟨w.heap.size, 0, none⟩) n n) n ((List.replicate n (0 : UInt8)).map bv) → (convert 22 9 (.slice (some ⟨w.heap.size, 0, none⟩) n n)).run Try.prog w1 = .ok (.string (str (List.replicate n 0))) w1 :=
    fun w1 ho => conv_bytes (Rd.of_own ho) (by simp) n
  have HCV := Lib.hid hcv
  clear hcv
  go_enter Try.func50, Try.ntmps50
  go_wp2_with (at_make; refine wpList_make_full _ rfl (.tmp 3) (.tmp 3) 22 rfl w.heap.size 5 i0 (.int .u8 0) 1 Try.underlying22 hi hz0 hz1 .i64 .i64 (n : Int) (n : Int) n rfl rfl rfl rfl (by rw [hz2]; omega) (by simp only [maxLen]; omega) (Nat.le_refl _) ?_; intro w1 ho1 hg1; have hcv := HCV.out w1 (by rw [madeCells_u8] at ho1; exact ho1); have HM := Lib.hid ((Mod.of_grown hg1).mono (G := Nil) (fun _ _ h => by cases h)); clear ho1 hg1)
  go_ret
  exact ⟨rfl, HM.out⟩

theorem Rd.bytes1 (w : World) (e : TypeId) (s : ByteArray) : Rd (fun b => b = w.heap.size) (Lib.bytesWorld w e s) (some ⟨w.heap.size, 0, none⟩) (s.data.toList.map bv) := fun hn => by
  obtain ⟨ad, h0, h1, h2, h3⟩ := Rd.bytes w e s hn
  injection h0 with h0
  subst h0
  exact ⟨_, rfl, rfl, h2, h3⟩

theorem there_zero {s : DSt} (h : 64 ≤ s.S.length) : s.there 0 = true := by
  unfold DSt.there
  simp
  omega
theorem write_zero {S b : List UInt8} (hS : 64 ≤ S.length) (hb : b.length = 64) : (⟨S, [], -1⟩ : DSt).write 0 b = (⟨S, [(0, b)], -1⟩, 0) := by
  unfold DSt.write
  rw [if_pos ⟨there_zero (s := ⟨S, [], -1⟩) hS, hb⟩]
  rfl
theorem sync_zero {S b : List UInt8} : (if (⟨S, [(0, b)], -1⟩ : DSt).on = true then (⟨DSt.img ⟨S, [(0, b)], -1⟩, [], (DSt.spend ⟨S, [(0, b)], -1⟩).left⟩ : DSt) else ⟨S, [(0, b)], -1⟩) = ⟨layB S 0 b, [], -1⟩ := by
  rfl
theorem crash_zero {S b : List UInt8} : (⟨S, [(0, b)], -1⟩ : DSt).crash [] (-1) 0 = ⟨S, [], -1⟩ := by
  rfl

theorem DskPost.fin {B : Nat} {w w' : World} {g : Nat} {F : Nat → Prop} {s : DSt} {e r : Ending} (h : DskPost B w g F s e r w') : r = e ∧ ∃ F', DskAt B w' g F' s ∧ Mod F w w' ∧ ∀ k, F' k → F k ∨ w.heap.size ≤ k := h

theorem Mod.disk {w w1 w2 : World} {B g : Nat} {F : Nat → Prop} {s : DSt} (h : Mod Nil w w1) (hd : DskAt B w1 g F s) (hm : Mod F w1 w2) (hB : w.heap.size ≤ B) : Mod Nil w w2 :=
  h.trans' hm (fun _ _ h => h) (fun k hk hF => absurd hk (by have := (hd.lt k hF).1; omega))

set_option maxHeartbeats 3200000 in
set_option maxRecDepth 100000 in
theorem awake3_any (w : World) : Calls Try.prog 41 #[] w fun r w' => r = .returned (.bool true) ∧ Mod Nil w w' := by
  have ks := conv_string
  obtain ⟨z, hz⟩ : ∃ z, z = List.replicate 63 (0 : UInt8) := ⟨_, rfl⟩
  have hzl : z.length = 63 := by rw [hz]; simp
  obtain ⟨Z, hZ⟩ : ∃ Z, Z = List.replicate (64 * 2) (0 : UInt8) := ⟨_, rfl⟩
  have hZl : Z.length = 128 := by rw [hZ]; simp
  obtain ⟨la, hla⟩ : ∃ la, str z ++ ⟨#[97]⟩ = str la ∧ la.length = 64 := ⟨z ++ [97], str_append z [97], by simp [hzl]⟩
  obtain ⟨lb, hlb⟩ : ∃ lb, str z ++ ⟨#[98]⟩ = str lb ∧ lb.length = 64 := ⟨z ++ [98], str_append z [98], by simp [hzl]⟩
  obtain ⟨ha1, ha2⟩ := hla
  obtain ⟨hb1, hb2⟩ := hlb
  have hsa : (str la).size = 64 := by rw [str_size]; exact ha2
  have hsb : (str lb).size = 64 := by rw [str_size]; exact hb2
  have hz63 : (str z).size = 63 := by rw [str_size]; exact hzl
  have HZ := Lib.hid hz
  have HZZ := Lib.hid hZ
  have HZL := Lib.hid hZl
  clear hz hZ hZl hzl
  go_enter Try.func41, Try.ntmps41
  go_wp2_with fail
  refine (dskNew_ok 2 _ (by omega) (by omega)).mono ?_
  rintro r w1 ⟨g, F, rfl, hd, hm⟩
  rw [← HZZ.out] at hd
  have HD := Lib.hid hd
  have HM := Lib.hid hm
  clear hd hm
  go_wp2_with fail
  refine (noughts_any 63 _ (by omega)).mono ?_
  rintro r w2 ⟨rfl, hm2⟩
  rw [← HZ.out]
  have HM2 := Lib.hid hm2
  clear hm2
  go_wp2_with fail
  refine (noughts_any 63 _ (by omega)).mono ?_
  rintro r w3 ⟨rfl, hm3⟩
  rw [← HZ.out]
  obtain ⟨a, ha⟩ : ∃ a, a = w2.heap.size := ⟨_, rfl⟩
  obtain ⟨b, hb⟩ : ∃ b, b = w3.heap.size := ⟨_, rfl⟩
  obtain ⟨wS, hwS⟩ : ∃ wS, wS = Lib.bytesWorld w3 5 (str lb) := ⟨_, rfl⟩
  have hm2a := HM2.out.bytes 5 (str la)
  have hs2 : w2.heap.size < (Lib.bytesWorld w2 5 (str la)).heap.size := by rw [Lib.bytesWorld_size]; omega
  have hs3 : w3.heap.size < wS.heap.size := by rw [hwS, Lib.bytesWorld_size]; omega
  have hs23 := hm3.size
  have HMX := Lib.hid (show Mod Nil w1 wS from hwS ▸ (hm2a.trans hm3).bytes 5 (str lb))
  have HRA := Lib.hid (show Rd (fun k => k = a) wS (some ⟨a, 0, none⟩) (la.map bv) by rw [hwS, ha]; exact ((Rd.bytes1 w2 5 (str la)).keep0 hm3).keep0 ((Mod.refl Nil w3).bytes 5 (str lb)))
  have HRB := Lib.hid (show Rd (fun k => k = b) wS (some ⟨b, 0, none⟩) (lb.map bv) by rw [hwS, hb]; exact Rd.bytes1 w3 5 (str lb))
  have hsz : w1.heap.size ≤ a ∧ a < wS.heap.size ∧ w1.heap.size ≤ b ∧ b < wS.heap.size := by have := HM2.out.size; omega
  have HSZ := Lib.hid hsz
  have HNF := Lib.hid (show ∀ k, F k → k ≠ a ∧ k ≠ b from fun k hk => by have := (HD.out.lt k hk).2; omega)
  clear hm3 hm2a hs2 hs3 hs23 hsz
  go_wp2_with fail
  rw [← ha, ← hb, ← hwS]
  have HB := Lib.hid (show w.heap.size ≤ wS.heap.size from Nat.le_trans HM.out.size HMX.out.size)
  clear ha hb hwS
  have HMS := Lib.hid (HM.out.trans HMX.out)
  have HDS := Lib.hid (HD.out.keep0 HMX.out)
  refine (dskWrite_any w.heap.size g F ⟨Z, [], -1⟩ 0 _ 64 _ _ la _ HDS.out HB.out (by simp) (by simp) ha2 HRA.out (fun k hk hF => (HNF.out k hF).1 hk)).mono ?_
  rintro r w4 h4
  rw [write_zero (by have := HZL.out; omega) ha2] at h4
  obtain ⟨rfl, F4, hd4, hm4, hF4⟩ := h4
  have HD4 := Lib.hid hd4
  have HB4 := Lib.hid (Nat.le_trans HB.out hm4.size)
  have HMS4 := Lib.hid (HMS.out.disk HDS.out hm4 (Nat.le_refl _))
  have HRA4 := Lib.hid (HRA.out.keep hm4 (fun k hk hF => (HNF.out k hF).1 hk))
  have HRB4 := Lib.hid (HRB.out.keep hm4 (fun k hk hF => (HNF.out k hF).2 hk))
  have HNF4 := Lib.hid (show (∀ k, F4 k → k ≠ a ∧ k ≠ b) ∧ a < w4.heap.size ∧ b < w4.heap.size from ⟨fun k hk => (hF4 k hk).elim (HNF.out k) (fun h => by have := HSZ.out; omega), by have := hm4.size; have := HSZ.out; omega⟩)
  clear hd4 hm4 hF4
  go_wp2_with fail
  refine (dskSync_any w.heap.size g F4 _ _ HD4.out HB4.out (by simp) (by simp)).mono ?_
  rintro r w5 h5
  rw [sync_zero] at h5
  obtain ⟨rfl, F5, hd5, hm5, hF5⟩ := h5
  have HD5 := Lib.hid hd5
  have HB5 := Lib.hid (Nat.le_trans HB4.out hm5.size)
  have HMS5 := Lib.hid (HMS4.out.disk HD4.out hm5 (Nat.le_refl _))
  have HRA5 := Lib.hid (HRA4.out.keep hm5 (fun k hk hF => (HNF4.out.1 k hF).1 hk))
  have HRB5 := Lib.hid (HRB4.out.keep hm5 (fun k hk hF => (HNF4.out.1 k hF).2 hk))
  have HNF5 := Lib.hid (show (∀ k, F5 k → k ≠ a ∧ k ≠ b) ∧ a < w5.heap.size ∧ b < w5.heap.size from ⟨fun k hk => (hF5 k hk).elim (HNF4.out.1 k) (fun h => by have := HNF4.out; omega), by have := hm5.size; have := HNF4.out; omega⟩)
  clear hd5 hm5 hF5
  have hS5 : 64 ≤ (layB Z 0 la).length := by rw [layB_length (by have := HZL.out; omega)]; have := HZL.out; omega
  go_wp2_with fail
  refine (dskWrite_any w.heap.size g F5 ⟨layB Z 0 la, [], -1⟩ 0 _ 64 _ _ lb _ HD5.out HB5.out (by simp) (by simp) hb2 HRB5.out (fun k hk hF => (HNF5.out.1 k hF).2 hk)).mono ?_
  rintro r w6 h6
  rw [write_zero hS5 hb2] at h6
  obtain ⟨rfl, F6, hd6, hm6, hF6⟩ := h6
  have HD6 := Lib.hid hd6
  have HB6 := Lib.hid (Nat.le_trans HB5.out hm6.size)
  have HMS6 := Lib.hid (HMS5.out.disk HD5.out hm6 (Nat.le_refl _))
  have HRA6 := Lib.hid (HRA5.out.keep hm6 (fun k hk hF => (HNF5.out.1 k hF).1 hk))
  have HNF6 := Lib.hid (show (∀ k, F6 k → k ≠ a) ∧ a < w6.heap.size from ⟨fun k hk => (hF6 k hk).elim (fun h => (HNF5.out.1 k h).1) (fun h => by have := HNF5.out; omega), by have := hm6.size; have := HNF5.out; omega⟩)
  clear hd6 hm6 hF6
  go_wp2_with fail
  refine (dskCrash_any w.heap.size g F6 _ none 0 0 [] (-1) 0 (fun _ => False) _ HD6.out (by simp) rfl (by simp [maxLen]) (Rd.nil _ _ _) (fun _ h => h.elim)).mono ?_
  rintro r w7 h7
  rw [crash_zero] at h7
  obtain ⟨rfl, F7, hd7, hm7, hF7⟩ := h7
  have HD7 := Lib.hid hd7
  have HMS7 := Lib.hid (HMS6.out.disk HD6.out hm7 (Nat.le_refl _))
  have HRA7 := Lib.hid (HRA6.out.keep hm7 (fun k hk hF => HNF6.out.1 k hF hk))
  clear hd7 hm7 hF7
  go_wp2_with fail
  refine (dskRead_ok w.heap.size g F7 _ 0 _ HD7.out (there_zero hS5) (by simp)).mono ?_
  rintro r w8 ⟨v8, rfl, ho8, hm8⟩
  have hsec : sector (DSt.img ⟨layB Z 0 la, [], -1⟩) 0 = la := sector_same ha2 (by have := HZL.out; omega)
  rw [hsec] at ho8
  obtain ⟨A8, c8, rfl, _, _⟩ := own_slice ho8
  have k1 := conv_bytes (Rd.of_own ho8) ha2 c8
  have k2 := conv_bytes (HRA7.out.keep0 hm8) ha2 (grownCap w2 64 0 5)
  have HM8 := Lib.hid (HMS7.out.trans hm8)
  clear ho8 hm8 hsec
  go_wp2_with fail
  go_ret
  exact ⟨rfl, HM8.out⟩
end Go.Proofs.Ytdllafmponmkmaa
