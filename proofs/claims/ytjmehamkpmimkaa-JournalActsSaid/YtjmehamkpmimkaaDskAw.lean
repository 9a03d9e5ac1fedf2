/- law03.awake; ref03.Noughts. -/
import Derived.Test.YtjmehamkpmimkaaDskC
namespace Go.Proofs.Ytjmehamkpmimkaa
open Go.RowKit

theorem str_append' (a b : List UInt8) : str a ++ ⟨b.toArray⟩ = str (a ++ b) := str_append a b

set_option maxHeartbeats 1600000 in
set_option maxRecDepth 100000 in
theorem noughts_any (n : Nat) (w : World) (hn : n ≤ 1000000000) :
    Calls Try.prog 45 #[.int .i64 n] w fun r w' => r = .returned (.string (str (List.replicate n 0))) ∧ Mod Nil w w' := by
  obtain ⟨i0, hi, hz0, hz1, hz2⟩ := info_parts u8_info
  have hcv : ∀ (w1 : World), w1.ownsRow w.heap.size 5 1 (.slice (some ⟨w.heap.size, 0, none⟩) n n) n ((List.replicate n (0 : UInt8)).map bv) → (convert 36 9 (.slice (some ⟨w.heap.size, 0, none⟩) n n)).run Try.prog w1 = .ok (.string (str (List.replicate n 0))) w1 :=
    fun w1 ho => conv_bytes (Rd.of_own ho) (by simp) n
  have HCV := Lib.hid hcv
  clear hcv
  go_enter Try.func45, Try.ntmps45
  go_wp2_with (at_make; refine wpList_make_full _ rfl (.tmp 3) (.tmp 3) 36 rfl w.heap.size 5 i0 (.int .u8 0) 1 Try.underlying36 hi hz0 hz1 .i64 .i64 (n : Int) (n : Int) n rfl rfl rfl rfl (by rw [hz2]; omega) (by simp only [maxLen]; omega) (Nat.le_refl _) ?_; intro w1 ho1 hg1; have hcv := HCV.out w1 (by rw [madeCells_u8] at ho1; exact ho1); have HM := Lib.hid ((Mod.of_grown hg1).mono (G := Nil) (fun _ _ h => by cases h)); clear ho1 hg1)
  go_ret
  exact ⟨rfl, HM.out⟩

theorem Rd.bytes1 (w : World) (e : TypeId) (s : ByteArray) : Rd (fun b => b = w.heap.size) (Lib.bytesWorld w e s) (some ⟨w.heap.size, 0, none⟩) (s.data.toList.map bv) := fun hn => by
  obtain ⟨ad, h0, h1, h2, h3⟩ := Rd.bytes w e s hn
  injection h0 with h0
  subst h0
  exact ⟨_, rfl, rfl, h2, h3⟩

theorem there_zero {s : DSt} (h : 64 ≤ s.S.length) : s.there 0 = true := by
  unfold DSt.there
  simp
  omega
theorem write_zero {S b : List UInt8} (hS : 64 ≤ S.length) (hb : b.length = 64) : (⟨S, [], -1⟩ : DSt).write 0 b = (⟨S, [(0, b)], -1⟩, 0) := by
  unfold DSt.write
  rw [if_pos ⟨there_zero (s := ⟨S, [], -1⟩) hS, hb⟩]
  rfl
theorem sync_zero {S b : List UInt8} : (if (⟨S, [(0, b)], -1⟩ : DSt).on = true then (⟨DSt.img ⟨S, [(0, b)], -1⟩, [], (DSt.spend ⟨S, [(0, b)], -1⟩).left⟩ : DSt) else ⟨S, [(0, b)], -1⟩) = ⟨layB S 0 b, [], -1⟩ := by
  rfl
theorem crash_zero {S b : List UInt8} : (⟨S, [(0, b)], -1⟩ : DSt).crash [] (-1) 0 = ⟨S, [], -1⟩ := by
  rfl

theorem DskPost.fin {B : Nat} {w w' : World} {g : Nat} {F : Nat → Prop} {s : DSt} {e r : Ending} (h : DskPost B w g F s e r w') : r = e ∧ ∃ F', DskAt B w' g F' s ∧ Mod F w w' ∧ ∀ k, F' k → F k ∨ w.heap.size ≤ k := h

theorem Mod.disk {w w1 w2 : World} {B g : Nat} {F : Nat → Prop} {s : DSt} (h : Mod Nil w w1) (hd : DskAt B w1 g F s) (hm : Mod F w1 w2) (hB : w.heap.size ≤ B) : Mod Nil w w2 :=
  h.trans' hm (fun _ _ h => h) (fun k hk hF => absurd hk (by have := (hd.lt k hF).1; omega))

end Go.Proofs.Ytjmehamkpmimkaa
