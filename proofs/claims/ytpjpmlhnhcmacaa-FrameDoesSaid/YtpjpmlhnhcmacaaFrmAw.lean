/- law24.awake. -/
import Derived.Test.YtpjpmlhnhcmacaaFrmY
namespace Go.Proofs.Ytpjpmlhnhcmacaa
open Go.RowKit

def frZero : Fin 11 → Value
  | 0 => .int .i64 0
  | 1 => .int .i64 0
  | 2 => .slice none 0 0
  | 3 => .slice none 0 0
  | 4 => .slice none 0 0
  | 5 => .string ⟨#[]⟩
  | 6 => .int .i64 0
  | 7 => .int .u64 0
  | 8 => .pointer none
  | 9 => .slice none 0 0
  | 10 => .string ⟨#[]⟩

theorem Mod.foot2 {w w1 w2 : World} {g : Nat} {v : Value} (h : Mod Nil w w1) (hm : Mod (Foot2 g v) w1 w2) (hg : w.heap.size ≤ g) (hv : ∀ k, v.ownBlock = some k → w.heap.size ≤ k) : Mod Nil w w2 :=
  h.trans' hm (fun _ _ h => h) (fun k hk hkk => hkk.elim (fun h => absurd hk (by omega)) (fun h => absurd hk (by have := hv k h; omega)))

/-- A stack's contract in the world of a call that made it. -/
abbrev FrAt (b : Nat) (c : Fin 11 → Value) (id home : Int) : Fr := (b, frCells c id home)

set_option maxHeartbeats 1600000 in
set_option maxRecDepth 100000 in
theorem awake24_any (w : World) : Calls Try.prog 4 #[] w fun r w' => r = .returned (.bool true) ∧ Mod Nil w w' := by
  go_enter Try.func4, Try.ntmps4
  go_wp2_with fail
  refine (stkNew_any _).mono ?_
  rintro r w1 ⟨rfl, hw1⟩
  have hst : StkAt w.heap.size w1 w.heap.size (.slice none 0 0) 0 [] := hw1 ▸ stk_new w
  have hmod : Mod Nil w w1 := hw1 ▸ (Mod.refl _ _).alloc _
  have H1 := Lib.hid hst
  have HM1 := Lib.hid hmod
  clear hw1 hst hmod
  go_wp2_with fail
  refine (push_ok w.heap.size w.heap.size _ 0 [] frZero 0 0 _ H1.out HM1.out.size (by decide) (by decide) (by decide)).mono ?_
  rintro r w2 ⟨rfl, v2, hs2, hm2, hat2⟩
  have H2 := Lib.hid hs2
  have HM2 := Lib.hid (show Mod Nil w w2 from HM1.out.foot2 hm2 (Nat.le_refl _) (fun k h => by cases h))
  have HAT2 := Lib.hid (show ∀ k, v2.ownBlock = some k → w.heap.size ≤ k from fun k hk => (hat2 k hk).elim (fun h => by cases h) (fun h => Nat.le_trans HM1.out.size h))
  clear hs2 hm2 hat2
  go_wp2_with fail
  refine (push_ok w.heap.size w.heap.size v2 1 _ frZero 0 0 _ H2.out HM2.out.size (by simp) (by decide) (by decide)).mono ?_
  rintro r w3 ⟨rfl, v3, hs3, hm3, hat3⟩
  have H3 := Lib.hid hs3
  have HM3 := Lib.hid (show Mod Nil w w3 from HM2.out.foot2 hm3 (Nat.le_refl _) HAT2.out)
  have HAT3 := Lib.hid (show ∀ k, v3.ownBlock = some k → w.heap.size ≤ k from fun k hk => (hat3 k hk).elim (HAT2.out k) (fun h => Nat.le_trans HM2.out.size h))
  clear hs3 hm3 hat3
  go_wp2_with fail
  refine (stkLen_any w.heap.size _ _ _ _ _ H3.out).mono ?_
  rintro r w4 ⟨rfl, rfl⟩
  go_wp2_with fail
  refine (stkPopTo_any w.heap.size _ _ _ _ [1, 2] 1 _ H3.out ⟨rfl, ?_⟩ (by simp)).mono ?_
  · intro j f i hj hi
    match j, hj, hi with
    | 0, hj, hi => cases hj; cases hi; rfl
    | 1, hj, hi => cases hj; cases hi; rfl
  rintro r w5 ⟨rfl, v5, hs5, hm5, hat5⟩
  have hix : idx [1, 2] 1 = 0 := by decide
  rw [hix] at hs5
  have H5 := Lib.hid (show StkAt w.heap.size w5 w.heap.size v5 2 [] from hs5)
  have HM5 := Lib.hid (show Mod Nil w w5 from HM3.out.foot2 hm5 (Nat.le_refl _) HAT3.out)
  have HAT5 := Lib.hid (show ∀ k, v5.ownBlock = some k → w.heap.size ≤ k from fun k hk => HAT3.out k (hat5 k hk))
  clear hs5 hm5 hat5 hix
  go_wp2_with fail
  refine (stkLen_any w.heap.size _ _ _ _ _ H5.out).mono ?_
  rintro r w6 ⟨rfl, rfl⟩
  go_wp2_with fail
  refine (stkPop_any w.heap.size _ _ _ _ _ H5.out (by decide)).mono ?_
  rintro r w7 ⟨rfl, v7, hs7, hm7, hat7⟩
  have H7 := Lib.hid (show StkAt w.heap.size w7 w.heap.size v7 2 [] from hs7)
  have HM7 := Lib.hid (show Mod Nil w w7 from HM5.out.foot2 hm7 (Nat.le_refl _) HAT5.out)
  clear hs7 hm7 hat7
  go_wp2_with fail
  refine (stkTop_any w.heap.size _ _ _ _ _ H7.out (by decide)).mono ?_
  rintro r w8 ⟨rfl, hm8⟩
  have e8 : topPtr [] = .pointer none := rfl
  rw [e8]
  clear e8
  have HM8 := Lib.hid (HM7.out.trans hm8)
  clear hm8
  go_wp2_with fail
  go_ret
  exact ⟨rfl, HM8.out⟩
end Go.Proofs.Ytpjpmlhnhcmacaa
