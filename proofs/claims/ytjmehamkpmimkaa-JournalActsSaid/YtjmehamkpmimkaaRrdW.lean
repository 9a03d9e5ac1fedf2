/- Contracts of the document's reader (layer 1): value, Num, Int, Text, Texts; Same. -/
import Derived.Test.YtjmehamkpmimkaaRdrX
import Derived.Lib.Strings
namespace Go.Proofs.Ytjmehamkpmimkaa
open Go.RowKit

theorem str_cut (S : List UInt8) (a b : Nat) : (str S).extract a b = str ((S.drop a).take (b - a)) := by
  apply ByteArray.ext
  apply Array.toList_inj.1
  rw [Lib.extract_data]
  simp [str]
theorem str_take (S : List UInt8) (k : Nat) : (str S).extract 0 k = str (S.take k) := by rw [str_cut]; simp
theorem str_drop (S : List UInt8) (k n : Nat) (h : n = S.length) : (str S).extract k n = str (S.drop k) := by rw [str_cut, List.take_of_length_le (by simp [h])]

set_option maxHeartbeats 1600000 in
set_option maxRecDepth 100000 in
theorem refValue_any (l : List UInt8) (w : World) (hl : l.length ≤ 8) :
    Calls Try.prog 95 #[.string (str l)] w fun r w' => r = .returned (.int .u64 (beVal l : Nat)) ∧ w = w' := by
  have hs := str_size l
  obtain ⟨N, hN⟩ : ∃ N, N = l.length := ⟨_, rfl⟩
  rw [← hN] at hs hl
  have HN := Lib.hid hN
  clear hN
  go_enter Try.func95, Try.ntmps95
  go_wp2_with fail
  go_loop [3, 4] (fun r i => ∃ k : Nat, k ≤ N ∧ i = .int .i64 k ∧ r = .int .u64 (beVal (l.take k) : Nat)) (fun _ i => N - (intOf i).toNat)
  case atStart => exact ⟨0, Nat.zero_le _, rfl, rfl⟩
  case round =>
    obtain ⟨k, hk, rfl, rfl⟩ := hrel
    by_cases hlt : k < N
    · have hks : k < (str l).size := by rw [hs]; exact hlt
      obtain ⟨ch, hch⟩ : ∃ ch : UInt8, ch = (str l)[k] := ⟨_, rfl⟩
      have hgk : l[k]? = some ch := by rw [hch, List.getElem?_eq_getElem (by rw [← HN.out]; exact hlt)]; rfl
      have HNX := Lib.hid (show beVal (l.take (k + 1)) = beVal (l.take k) * 256 + ch.toNat by rw [List.take_add_one, hgk]; exact beVal_snoc _ _)
      obtain ⟨V, hV⟩ : ∃ V, V = beVal (l.take k) := ⟨_, rfl⟩
      have hVl : V < 72057594037927936 := by
        have := beVal_lt (l.take k)
        rw [← hV] at this
        have h2 : (l.take k).length ≤ 7 := by rw [List.length_take]; omega
        have h3 : (256 : Nat) ^ (l.take k).length ≤ 256 ^ 7 := Nat.pow_le_pow_right (by omega) h2
        omega
      rw [← hV] at HNX ⊢
      have hc256 := ch.toNat_lt
      have HCH := Lib.hid hch
      clear hgk hV hch
      go_wp2_with fail
      rw [← HCH.out]
      go_round
      case rel => exact ⟨k + 1, by omega, by go_num, by rw [wraps_u64 (ch.toNat : Int) (by omega) (by omega), wraps_u64 _ (by omega) (by omega), HNX.out]; rfl⟩
      case measure => simp [intOf] <;> omega
    · have HF := Lib.hid (show beVal (l.take k) = beVal l by rw [List.take_of_length_le (by have := HN.out; omega)])
      go_wp2_with fail
      go_ret
      refine ⟨?_, rfl⟩
      first
        | rfl
        | (rw [HF.out]; done)
        | (show Ending.returned (.int .u64 _) = _; rw [HF.out])

/-- The document's reader at g. -/
def RrdAt (w : World) (g : Nat) (s : RSt) : Prop := Blk w g 113 #[.string (str s.1), .int .i64 s.2]
theorem RrdAt.keep {F : Nat → Prop} {w w' : World} {g : Nat} {s : RSt} (h : RrdAt w g s) (hm : Mod F w w') (hF : ¬ F g) : RrdAt w' g s := Blk.keep h hm hF
def RrdPost (g : Nat) (w : World) (s : RSt) (e : Ending) (r : Ending) (w' : World) : Prop := r = e ∧ RrdAt w' g s ∧ Mod (fun k => k = g) w w'

theorem RrdAt.err {w : World} {g : Nat} {s : RSt} (h : RrdAt w g s) (e : Int) : RrdAt (w.setCell ⟨g, 1, none⟩ (.int .i64 e)) g (s.1, e) := by
  have := Blk.set_ h 1 (.int .i64 e)
  unfold RrdAt
  simpa using this
theorem RrdAt.text {w : World} {g : Nat} {s : RSt} (h : RrdAt w g s) (l : List UInt8) : RrdAt (w.setCell ⟨g, 0, none⟩ (.string (str l))) g (l, s.2) := by
  have := Blk.set_ h 0 (.string (str l))
  unfold RrdAt
  simpa using this
theorem mod_set (w : World) (g i : Nat) (v : Value) : Mod (fun k => k = g) w (w.setCell ⟨g, i, none⟩ v) := (Mod.refl (fun k => k = g) w).set (p := ⟨g, i, none⟩) (.inl rfl) v

set_option maxHeartbeats 1600000 in
set_option maxRecDepth 100000 in
theorem rrnum_any (g : Nat) (s : RSt) (w : World) (h : RrdAt w g s) (hbig : s.1.length ≤ 1000000000) :
    Calls Try.prog 76 #[.pointer (some ⟨g, 0, none⟩)] w (RrdPost g w (rNum s).2 (.returned (.int .i64 ((rNum s).1 : Nat)))) := by
  have H := Lib.hid h
  have hc0 := Blk.cell h 0
  have hc1 := Blk.cell h 1
  have hf0 := Blk.frozen h 0
  have hf1 := Blk.frozen h 1
  have hgl := Blk.lt h
  have hs := str_size s.1
  clear h
  obtain ⟨l, e⟩ := s
  replace hc0 : w.cell? ⟨g, 0, none⟩ = some (.string (str l)) := hc0
  replace hc1 : w.cell? ⟨g, 1, none⟩ = some (.int .i64 e) := hc1
  replace hs : (str l).size = l.length := hs
  replace hbig : l.length ≤ 1000000000 := hbig
  by_cases he : e = 0
  · subst he
    by_cases hl : l.length < 4
    · have HE := Lib.hid (show rNum (l, 0) = (0, (l, 10)) by simp [rNum, hl])
      rw [HE.out]
      go_enter Try.func76, Try.ntmps76
      go_wp2_with fail
      go_ret
      exact ⟨rfl, H.out.err 10, mod_set _ _ _ _⟩
    · have ht := str_take l 4
      have hdr := str_drop l 4 l.length rfl
      obtain ⟨V, hV⟩ : ∃ V, V = beVal (l.take 4) := ⟨_, rfl⟩
      have hVl : V < 4294967296 := by
        have := beVal_lt (l.take 4)
        rw [← hV] at this
        have h2 : (l.take 4).length ≤ 4 := by rw [List.length_take]; omega
        have h3 : (256 : Nat) ^ (l.take 4).length ≤ 256 ^ 4 := Nat.pow_le_pow_right (by omega) h2
        omega
      have HC := Lib.hid (refValue_any (l.take 4) w (by rw [List.length_take]; omega))
      rw [← hV] at HC
      by_cases hv : 2147483647 < V
      · have HE := Lib.hid (show rNum (l, 0) = (0, (l, 11)) by simp [rNum, hl, ← hV, hv])
        rw [HE.out]
        clear hV
        go_enter Try.func76, Try.ntmps76
        go_wp2_with fail
        refine HC.out.mono ?_
        rintro r w1 ⟨rfl, rfl⟩
        go_wp2_with fail
        go_ret
        exact ⟨rfl, H.out.err 11, mod_set _ _ _ _⟩
      · have HE := Lib.hid (show rNum (l, 0) = (V, (l.drop 4, 0)) by simp [rNum, hl, ← hV, hv])
        rw [HE.out]
        clear hV
        go_enter Try.func76, Try.ntmps76
        go_wp2_with fail
        refine HC.out.mono ?_
        rintro r w1 ⟨rfl, rfl⟩
        go_wp2_with fail
        go_ret
        exact ⟨rfl, H.out.text _, mod_set _ _ _ _⟩
  · have he0 : (e != 0) = true := by simp [he]
    have HE := Lib.hid (show rNum (l, e) = (0, (l, e)) by simp [rNum, he])
    rw [HE.out]
    clear he
    go_enter Try.func76, Try.ntmps76
    go_wp2_with fail
    go_ret
    exact ⟨rfl, H.out, Mod.refl _ _⟩

end Go.Proofs.Ytjmehamkpmimkaa
