/- The walk of the law FrameDeep. -/
import Derived.Test.YtdllafmponmkmaaFrmAw
namespace Go.Proofs.Ytdllafmponmkmaa
open Go.RowKit

/-- A stack of n activations, the last number L; whatever was there at w is as it was. -/
def Dp (w : World) (g n L : Nat) (wr : World) : Prop := ∃ v fs, StkAt w.heap.size wr g v L fs ∧ fs.length = n ∧ Mod Nil w wr

theorem Dp.new {w w1 : World} (hm : Mod Nil w w1) : Dp w w1.heap.size 0 0 (w1.alloc (.cells #[.slice none 0 0, .int .i64 0] 134)) := by
  obtain ⟨h1, h2, h3, h4⟩ := stk_new w1
  exact ⟨_, [], ⟨h1, World.ownsRow_nil _ _ _ _, hm.size, fun f hf => by cases hf⟩, rfl, hm.alloc _⟩

theorem Dp.mod {w wr : World} {g n L : Nat} (h : Dp w g n L wr) : Mod Nil w wr := by
  obtain ⟨_, _, _, _, h⟩ := h
  exact h

theorem Dp.keep {w w1 w2 : World} {g n L : Nat} (h : Dp w g n L w1) (hm : Mod Nil w1 w2) : Dp w g n L w2 := by
  obtain ⟨v, fs, hs, hl, hm0⟩ := h
  exact ⟨v, fs, hs.keep0 hm, hl, hm0.trans hm⟩

theorem dp_full {w wr : World} {g L : Nat} (h : Dp w g 200 L wr) :
    Calls Try.prog 37 #[.pointer (some ⟨g, 0, none⟩), .agg (frCells frZero 0 0)] wr fun r w' => r = .returned (.tuple #[.int .i64 0, .int .i64 42]) ∧ Dp w g 200 L w' := by
  obtain ⟨v, fs, hs, hn, hm⟩ := h
  refine (push_full _ g v L fs frZero 0 0 wr hs hn).mono ?_
  rintro r w' ⟨rfl, hm'⟩
  exact ⟨rfl, v, fs, hs.keep0 hm', hn, hm.trans hm'⟩

theorem dp_push {w wr : World} {g n L : Nat} (h : Dp w g n L wr) (hn : n < 200) (hL : L ≤ 1000000) :
    Calls Try.prog 37 #[.pointer (some ⟨g, 0, none⟩), .agg (frCells frZero 0 0)] wr fun r w' => r = .returned (.tuple #[.int .i64 ((L : Int) + 1), .int .i64 0]) ∧ Dp w g (n + 1) (L + 1) w' ∧
      (∃ v fs b, StkAt w.heap.size w' g v ((L : Int) + 1) (fs ++ [FrAt b frZero ((L : Int) + 1) ((L : Int) + 1)]) ∧ fs.length = n) := by
  obtain ⟨v, fs, hs, hl, hm⟩ := h
  refine (push_ok w.heap.size g v L fs frZero 0 0 wr hs hm.size (by omega) (by omega) (by omega)).mono ?_
  rintro r w' ⟨rfl, v', hs', hm', hat⟩
  have hlow := hs.low
  rw [if_pos rfl] at hs'
  exact ⟨rfl, ⟨v', _, hs', by simp [hl], hm.foot2 hm' (hlow g (.inl rfl)) (fun k hk => hlow k (.inr hk))⟩, v', fs, _, hs', hl⟩

theorem dp_top {w w' : World} {g n L : Nat} (h : ∃ v fs b, StkAt w.heap.size w' g v ((L : Int) + 1) (fs ++ [FrAt b frZero ((L : Int) + 1) ((L : Int) + 1)]) ∧ fs.length = n) (hn : n < 200) :
    ∃ b, Blk w' b 68 (frCells frZero ((L : Int) + 1) ((L : Int) + 1)) ∧ ∀ w2, Mod Nil w' w2 → Calls Try.prog 38 #[.pointer (some ⟨g, 0, none⟩)] w2 fun r w3 => r = .returned (.pointer (some ⟨b, 0, none⟩)) ∧ Mod Nil w' w3 := by
  obtain ⟨v, fs, b, hs, hl⟩ := h
  refine ⟨b, (hs.2.2.2 (FrAt b frZero ((L : Int) + 1) ((L : Int) + 1)) (by simp)).1, fun w2 hm => ?_⟩
  refine (stkTop_any _ g v _ _ w2 (hs.keep0 hm) (by simp; omega)).mono ?_
  rintro r w3 ⟨rfl, hm3⟩
  refine ⟨?_, hm.trans hm3⟩
  have : topPtr (fs ++ [FrAt b frZero ((L : Int) + 1) ((L : Int) + 1)]) = .pointer (some ⟨b, 0, none⟩) := by simp [topPtr, frPtr]
  rw [this]

theorem dp_pop {w wr : World} {g n L : Nat} (h : Dp w g n L wr) (hn : n ≤ 200) :
    Calls Try.prog 39 #[.pointer (some ⟨g, 0, none⟩)] wr fun r w' => r = .returned (.bool (decide (0 < n))) ∧ Dp w g (n - 1) L w' := by
  obtain ⟨v, fs, hs, rfl, hm⟩ := h
  refine (stkPop_any w.heap.size g v L fs wr hs hn).mono ?_
  rintro r w' ⟨rfl, v', hs', hm', hat⟩
  have hlow := hs.low
  exact ⟨rfl, v', _, hs', by rw [List.length_take]; omega, hm.foot2 hm' (hlow g (.inl rfl)) (fun k hk => hlow k (.inr hk))⟩

theorem dp_len {w wr : World} {g n L : Nat} (h : Dp w g n L wr) :
    Calls Try.prog 40 #[.pointer (some ⟨g, 0, none⟩)] wr fun r w' => r = .returned (.int .i64 n) ∧ wr = w' := by
  obtain ⟨v, fs, hs, rfl, hm⟩ := h
  exact stkLen_any _ g v L fs wr hs

set_option maxHeartbeats 3200000 in
set_option maxRecDepth 100000 in
theorem frameDeep_walk (A : Option Addr) (n cap : Nat) (l : List UInt8) (w : World) (hl : l.length = n) (hn : n ≤ maxLen) (hr : Rd All w A (l.map bv)) :
    Calls Try.prog 7 #[.slice A n cap] w fun r w' => r = .returned (.bool true) ∧ Mod Nil w w' := by
  have HR := Lib.hid hr
  clear hr
  by_cases hbig : n > 20
  · have hb : (((n : Int)) > 20) := by omega
    go_enter Try.func7, Try.ntmps7
    go_wp2_with fail
    refine (awake24_any _).mono ?_
    rintro r w1 ⟨rfl, hm1⟩
    have HM1 := Lib.hid hm1
    clear hm1
    go_wp2_with fail
    refine (awake24_any _).mono ?_
    rintro r w2 ⟨rfl, hm2⟩
    have HM2 := Lib.hid (HM1.out.trans hm2)
    clear hm2
    go_wp2_with fail
    go_ret
    exact ⟨rfl, HM2.out⟩
  · go_enter Try.func7, Try.ntmps7
    go_wp2_with fail
    refine (awake24_any _).mono ?_
    rintro r w1 ⟨rfl, hm1⟩
    have HM1 := Lib.hid hm1
    clear hm1
    go_wp2_with fail
    refine (stkNew_any _).mono ?_
    rintro r w2 ⟨rfl, hw2⟩
    have HD := Lib.hid (show Dp w w1.heap.size 0 0 w2 from hw2 ▸ Dp.new HM1.out)
    obtain ⟨g, hg⟩ : ∃ g, g = w1.heap.size := ⟨_, rfl⟩
    rw [← hg] at HD ⊢
    clear hw2 hg
    go_wp2_with fail
    go_loopw [4, 5, 6] (fun nv lv iv wr => ∃ (i m L : Nat), i ≤ n ∧ iv = .int .i64 i ∧ nv = .int .i64 m ∧ lv = .int .i64 L ∧ m ≤ 200 ∧ L ≤ 210 * i ∧ Dp w g m L wr) (fun _ _ v _ => n - (intOf v).toNat)
    case atStart => exact ⟨0, 0, 0, Nat.zero_le _, rfl, rfl, rfl, Nat.zero_le _, Nat.zero_le _, HD.out⟩
    case round =>
      obtain ⟨i, m, L, hi, rfl, rfl, rfl, hm, hL, hd⟩ := hrel
      have HDr := Lib.hid hd
      clear hd
      by_cases hlt : i < n
      · go_wp2_with fail
        go_loopw [4, 5, 7] (fun nv lv kv wr => ∃ (k m L : Nat), k ≤ 210 ∧ kv = .int .i64 k ∧ nv = .int .i64 m ∧ lv = .int .i64 L ∧ m ≤ 200 ∧ L ≤ 210 * i + k ∧ Dp w g m L wr) (fun _ _ v _ => 210 - (intOf v).toNat)
        case atStart => exact ⟨0, m, L, Nat.zero_le _, rfl, rfl, rfl, hm, hL, HDr.out⟩
        case round =>
          clear hm hL HDr
          obtain ⟨k, m, L, hk, rfl, rfl, rfl, hm, hL, hd⟩ := hrel
          have HDr := Lib.hid hd
          clear hd
          by_cases hk2 : k < 210
          · by_cases h200 : m = 200
            · subst h200
              go_wp2_with fail
              refine (dp_full HDr.out).mono ?_
              rintro r w3 ⟨rfl, hd3⟩
              have HD3 := Lib.hid hd3
              clear hd3
              go_wp2_with fail
              go_roundw
              case rel => exact ⟨k + 1, 200, L, by omega, by go_num, rfl, rfl, Nat.le_refl _, by omega, HD3.out⟩
              case measure => simp [intOf] <;> omega
            · go_wp2_with fail
              refine (dp_push HDr.out (by omega) (by omega)).mono ?_
              rintro r w3 ⟨rfl, hd3, htop⟩
              obtain ⟨b, hb, ht⟩ := dp_top htop (by omega)
              have HD3 := Lib.hid hd3
              have HB := Lib.hid hb
              have HT := Lib.hid ht
              have hmb : ((m : Int) == 200) = false := by simp; omega
              clear hd3 htop hb ht
              go_wp2_with fail
              refine (HT.out _ (Mod.refl _ _)).mono ?_
              rintro r w4 ⟨rfl, hm4⟩
              have HM4 := Lib.hid hm4
              clear hm4
              go_wp2_with fail
              refine (HT.out _ HM4.out).mono ?_
              rintro r w5 ⟨rfl, hm5⟩
              have hc5 : w5.cell? ⟨b, 12, none⟩ = some (.int .i64 ((L : Int) + 1)) := (HB.out.keep hm5 id).cell 12
              have HM5 := Lib.hid hm5
              clear hm5
              go_wp2_with fail
              go_roundw
              case rel => exact ⟨k + 1, m + 1, L + 1, by omega, by go_num, by go_num, by go_num, by omega, by omega, HD3.out.keep HM5.out⟩
              case measure => simp [intOf] <;> omega
          · go_wp2_with fail
            obtain ⟨u, hu⟩ : ∃ u, l[i]? = some u := ⟨_, List.getElem?_eq_getElem (by omega)⟩
            have hcell : (l.map bv)[i]? = some (.int .u8 (u.toNat : Int)) := by rw [List.getElem?_map, hu]; rfl
            obtain ⟨ad, rfl, _, hadl, hcell⟩ := HR.out.at_ hcell
            have hub := u.toNat_lt
            go_loopw [4, 10] (fun nv kv wr => ∃ (k m : Nat), k ≤ u.toNat ∧ kv = .int .i64 k ∧ nv = .int .i64 m ∧ m ≤ 200 ∧ Dp w g m L wr) (fun _ v _ => u.toNat - (intOf v).toNat)
            case atStart => exact ⟨0, m, Nat.zero_le _, rfl, rfl, hm, HDr.out⟩
            case round =>
              clear hm HDr
              obtain ⟨q, m, hq, rfl, rfl, hm, hd⟩ := hrel
              have hcell3 := (hd.mod.cell (p := ad.add i) (by rw [block_of_add]; exact hadl) id).trans hcell
              have HDr := Lib.hid hd
              clear hd
              by_cases hq2 : q < u.toNat
              · go_wp2_with fail
                refine (dp_pop HDr.out hm).mono ?_
                rintro r w3 ⟨rfl, hd3⟩
                have HD3 := Lib.hid hd3
                clear hd3
                by_cases h0 : 0 < m
                · rw [decide_eq_true h0]
                  go_wp2_with fail
                  go_roundw
                  case rel => exact ⟨q + 1, m - 1, by omega, by go_num, congrArg (Value.int .i64) (by split <;> omega), by omega, HD3.out⟩
                  case measure => simp [intOf] <;> omega
                · rw [decide_eq_false h0]
                  obtain rfl : m = 0 := by omega
                  go_wp2_with fail
                  go_roundw
                  case rel => exact ⟨q + 1, 0, by omega, by go_num, by go_num, by omega, HD3.out⟩
                  case measure => simp [intOf] <;> omega
              · go_wp2_with fail
                refine (dp_len HDr.out).mono ?_
                rintro r w3 ⟨rfl, rfl⟩
                go_wp2_with fail
                go_roundw
                case rel => exact ⟨i + 1, m, L, by omega, by go_num, rfl, rfl, hm, by omega, HDr.out⟩
                case measure => simp [intOf] <;> omega
      · go_wp2_with fail
        go_ret
        exact ⟨rfl, HDr.out.mod⟩
end Go.Proofs.Ytdllafmponmkmaa
