/- Contract of crc.Open. -/
import Derived.Test.YtdllafmponmkmaaCrcX
import Derived.Test.YtdllafmponmkmaaFlow
namespace Go.Proofs.Ytdllafmponmkmaa
open Go.RowKit

/-- What Open answers to four octets or more. -/
def OpenPost (l : List UInt8) (n : Nat) (w : World) (e : Ending) (w' : World) : Prop :=
  (if sealed (l.take (n - 4)) = l then ∃ v, e = .returned (.tuple #[v, .int .i64 0]) ∧ w'.ownsRow w.heap.size 5 1 v (n - 4) ((l.take (n - 4)).map bv) else e = .returned (.tuple #[.slice none 0 0, .int .i64 12])) ∧ Mod Nil w w'

set_option maxHeartbeats 1600000 in
set_option maxRecDepth 100000 in
theorem open_long (S : Nat → Prop) (A : Option Addr) (n c : Nat) (l : List UInt8) (w : World) (hn : l.length = n) (h4 : 4 ≤ n) (hnc : n ≤ c) (hbig : n ≤ 1000000000) (hr : Rd S w A (l.map bv)) :
    Calls Try.prog 32 #[.slice A n c] w (OpenPost l n w) := by
  obtain ⟨ad, rfl, _, _, _⟩ := hr (by simp; omega)
  have hT : Rd S w (some ad) ((l.take (n - 4)).map bv) := by rw [List.map_take]; exact hr.take _
  have hTl : (l.take (n - 4)).length = n - 4 := by rw [List.length_take]; omega
  have hlt := crcSum_lt (l.take (n - 4))
  have hD : Rd S w (some (ad.add (n - 4))) ((l.drop (n - 4)).map bv) := by rw [List.map_drop]; exact hr.drop _
  have hDl : (l.drop (n - 4)).length = n - (n - 4) := by rw [List.length_drop]; omega
  have HD := Lib.hid hD
  have HDL := Lib.hid hDl
  clear hD hDl
  have HT := Lib.hid hT
  have HTL := Lib.hid hTl
  have HN := Lib.hid hn
  have HR := Lib.hid hr
  clear hT hTl hn hr
  obtain ⟨b, hb⟩ : ∃ b, b = decide (sumOctets (crcSum (l.take (n - 4))) = l.drop (n - 4)) := ⟨_, rfl⟩
  have HB := Lib.hid hb
  clear hb
  go_enter Try.func32, Try.ntmps32
  go_wp2_with fail
  refine wp_flow2 (by kernel_rfl) (R := Mod Nil) [(12, .is (.slice (some ad) n c)), (13, .is (.int .i64 ((n : Int) - 4))), (14, .is (.slice (some ad) (n - 4) c)),
    (15, ⟨IsParts [l.take (n - 4)], fun _ _ _ h k => h.keep0 k⟩),
    (16, .is (.int .u32 (crcSum (l.take (n - 4)) : Nat))),
    (17, ⟨IsSl 4 ((sumOctets (crcSum (l.take (n - 4)))).map bv), fun _ _ _ h k => h.keep0 k⟩),
    (18, .is (.slice (some ad) n c)), (19, .is (.int .i64 ((n : Int) - 4))), (20, .is (.slice (some (ad.add (n - 4))) (n - (n - 4)) (c - (n - 4)))), (21, .is (.bool b)), (22, .is (.bool (!b))), (11, .is (.bool (!b)))]
    (by kernel_rfl) (Mod.refl Nil) mod_trans ?fops ?ffin
  case fops =>
    refine ⟨?_, ?_, ?_, ?_, ?_, ?_, ?_, ?_, ?_, ?_, ?_, ?_, trivial⟩
    all_goals intro a wa hR hk
    all_goals simp [Oper.looksAt, Op.operands, Call.operands, Seen, slot, St.is, Act.eval] at hk
    all_goals go_wp2_with fail
    all_goals try exact leaves_of (Mod.refl _ _) rfl
    · exact leaves_of ((Mod.refl _ _).alloc _) ⟨_, _, rfl, parts_one (HT.out.keep0 ((Mod.refl Nil w).drew.trans hR)) HTL.out (by simp [maxLen]; omega) rfl⟩
    · obtain ⟨A, c', hg, hp⟩ := hk
      rw [hg]
      refine (sum_any All _ _ _ [l.take (n - 4)] _ rfl (by simp) hp).mono ?_
      rintro e w2 ⟨rfl, rfl⟩
      exact leaves_of (Mod.refl _ _) (by simp [Holds, slot, St.is])
    · refine (octets_any _ _ hlt).mono ?_
      rintro e w3 ⟨v3, rfl, hown3, hm3⟩
      exact leaves_of hm3 (IsSl.of_own hown3)
    · obtain ⟨⟨A3, c3, h17, _, _, _, hr3⟩, h20⟩ := hk
      rw [h17]
      refine (equal_any All S _ _ _ _ _ _ (sumOctets (crcSum (l.take (n - 4)))) (l.drop (n - 4)) _ rfl HDL.out hr3 (HD.out.keep0 ((Mod.refl Nil w).drew.trans hR))).mono ?_
      rintro e w2 ⟨rfl, rfl⟩
      exact leaves_of (Mod.refl _ _) (by simp [Holds, slot, St.is, HB.out])
  case ffin =>
    intro w' vs hR hV
    simp [HoldsAll, St.is] at hV
    obtain ⟨e12, e13, e14, ⟨A2, c2, e15, _⟩, e16, ⟨A3, c3, e17, _⟩, e18, e19, e20, e21, e22, e11⟩ := hV
    simp only [List.map_cons, List.map_nil, List.foldl_cons, List.foldl_nil, Act.put, e12, e13, e14, e15, e16, e17, e18, e19, e20, e21, e22, e11, List.setIfInBounds_toArray, List.set_cons_succ, List.set_cons_zero]
    clear e12 e13 e14 e15 e16 e17 e18 e19 e20 e21 e22 e11
    have hsl : (sealed (l.take (n - 4)) = l) ↔ b = true := by
      rw [HB.out, decide_eq_true_eq]
      unfold sealed
      constructor
      · intro h
        have := congrArg (List.drop (n - 4)) h
        rw [List.drop_append_of_le_length (by rw [HTL.out]; exact Nat.le_refl _), List.drop_of_length_le (by rw [HTL.out]; exact Nat.le_refl _)] at this
        simpa using this
      · intro h
        rw [h, List.take_append_drop]
    have hm0 : Mod Nil w w' := (Mod.refl Nil w).drew.trans hR
    have HM0 := Lib.hid hm0
    have HSL := Lib.hid hsl
    clear hm0 hsl hR
    cases b
    · go_wp2_with fail
      go_ret2
      unfold OpenPost
      refine ⟨?_, HM0.out⟩
      rw [if_neg (by rw [HSL.out]; simp)]
      rfl
    · go_wp2_with fail
      refine (clone_any S (some ad) (n - 4) c (l.take (n - 4)) _ HTL.out (by omega) (HT.out.keep0 HM0.out)).mono ?_
      rintro e w1 ⟨v1, rfl, hown1, hm1⟩
      have HO1 := Lib.hid hown1
      have HM1 := Lib.hid hm1
      clear hown1 hm1
      go_wp2_with fail
      go_ret2
      unfold OpenPost
      refine ⟨?_, HM0.out.trans HM1.out⟩
      rw [if_pos (HSL.out.2 trivial)]
      exact ⟨v1, rfl, own_base HO1.out HM0.out.size⟩

end Go.Proofs.Ytdllafmponmkmaa
