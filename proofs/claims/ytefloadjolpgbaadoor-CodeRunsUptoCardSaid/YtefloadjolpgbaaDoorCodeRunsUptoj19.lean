/- Parts of the proof of CodeRunsUpto, joined: Rrl Rrb. -/
import Derived.Test.YtefloadjolpgbaaDoorCodeRunsUptoj18
namespace Go.Proofs.YtefloadjolpgbaaDoor
open Go.RowKit

noncomputable def rtBody : Code := (Tryd.f15.body).getD .skip

def bOf : Value → Bool | .bool b => b | _ => false
/-- A call with an answer of which something is known. -/
structure PhE (W : World) (P : Bool → Prop) (S : Nat → Bool) (h : Hist) (w : World) : Prop where
  mod : Mod Nil W w
  val : S 0 = true → h 0 = .bool (bOf (h 0)) ∧ P (bOf (h 0))
theorem PhE.init {W : World} {P : Bool → Prop} (h : Hist) : PhE W P (fun _ => false) h W := ⟨Mod.refl _ _, fun h => by cases h⟩
theorem PhE.step {W wx w' : World} {P : Bool → Prop} {S : Nat → Bool} {h : Hist} (hP : PhE W P S h wx) (hm : Mod Nil wx w') {r : Bool} (hr : P r) : PhE W P (setB S 0) (upd h 0 (.bool r)) w' :=
  ⟨hP.mod.trans hm, fun _ => by rw [upd_same]; exact ⟨rfl, hr⟩⟩

/-- So many literals looked at. -/
def RtL (c : CodeT) (g2 n5 c5 : Nat) (A5 : Option Addr) (w0 : World) (ac : Act) (w : World) : Prop :=
  ∃ i : Nat, Sl 153 [(1, .slice A5 n5 c5), (2, .pointer (some ⟨g2, 0, none⟩)), (5, .int .i64 (i : Nat))] ac ∧ i ≤ c.lits.length ∧ (∀ j l, j < i → c.lits[j]? = some l → litBad l = false) ∧ Mod Nil w0 w

set_option maxHeartbeats 3200000 in
set_option maxRecDepth 100000 in
theorem rt_lits {Q : Exit → Act → World → Prop} {ac : Act} {w0 w : World} {c : CodeT} {v : CodeV} {A5 : Option Addr} {n5 c5 g2 : Nat}
    (HF : Sl 153 [(1, .slice A5 n5 c5), (2, .pointer (some ⟨g2, 0, none⟩)), (5, .int .i64 (0 : Nat))] ac)
    (hf : ∀ w', Mod Nil w0 w' → CodeF w' c v) (hk : Blk w0 g2 26 (codeArr c v)) (hn2 : c.lits.length ≤ 4000) (hm : Mod Nil w0 w)
    (hBad : ∀ a' w', Sl 153 [(4, .bool false)] a' → Mod Nil w0 w' → Q .ret a' w')
    (hOk : ∀ a' w', Sl 153 [(1, .slice A5 n5 c5), (2, .pointer (some ⟨g2, 0, none⟩))] a' → c.lits.any litBad = false → Mod Nil w0 w' → Q .normal a' w') :
    (part [1, 1, 1, 0, 1] rtBody).wp Tryd.prog Q ac w := by
  have HBAD := Lib.hid hBad
  have HOK := Lib.hid hOk
  have HC := Lib.hid hf
  have HKB := Lib.hid hk
  obtain ⟨n, hnn⟩ : ∃ n, c.lits.length = n := ⟨_, rfl⟩
  have HNN := Lib.hid hnn
  rw [hnn] at hn2
  clear hBad hOk hf hk hnn
  conv => arg 2; whnf
  refine wp_block (wp_loop (RtL c g2 n5 c5 A5 w0) (fun ac _ => n - (intOf (ac.eval (.tmp 5))).toNat) ⟨0, HF, Nat.zero_le _, (fun j l hj => absurd hj (by omega)), hm⟩ ?_)
  clear HF hm
  rintro ac2 w2 ⟨i, HF, hin, hag, hm⟩
  rw [HNN.out] at hin
  have HMU := Lib.hid (show n - (intOf ((ac2.tmps[5]?).getD undef)).toNat = n - i by rw [HF.see 5 rfl]; simp [intOf])
  have HAG := Lib.hid hag
  have HM := Lib.hid hm
  have hk2 := HKB.out.keep hm id
  obtain ⟨k0, k1, k2, k3, k4, k5⟩ := code_boxed hk2
  rw [HNN.out] at k2
  clear hag hm hk2 k0 k1 k3 k4 k5
  by_cases hlt : i < n
  · have hd : decide ((i : Int) < (n : Int)) = true := by simp; omega
    refine wp_seq (wp_seq (wp_region_lit ?_))
    refine sl_move HF rfl rfl (.inl rfl) (by decide) rfl ?_; clear HF; intro _ HF
    refine sl_op HF rfl rfl (by decide) ?_; intro K hK; have e2 := HF.see 2 rfl; go_wp2_with fail; clear e2 HF; intro _ HF
    refine sl_op HF rfl rfl (by decide) ?_; intro K hK; have e70 := HF.see 70 rfl; go_wp2_with fail; clear e70 HF; intro _ HF
    refine sl_op HF rfl rfl (by decide) ?_; intro K hK; have e71 := HF.see 71 rfl; go_wp2_with fail; clear e71 HF; intro _ HF
    refine sl_op HF rfl rfl (by decide) ?_; intro K hK; have e69 := HF.see 69 rfl; have e72 := HF.see 72 rfl; go_wp2_with fail; clear e69 e72 HF; intro _ HF
    refine sl_nil (wp_cond_true (HF.at 73 rfl) (wp_skip (sl_then (wp_seq (wp_block (wp_seq (wp_region_lit ?_)))))))
    obtain ⟨l, hli⟩ : ∃ l, c.lits[i]? = some l := ⟨_, List.getElem?_eq_getElem (by rw [HNN.out]; exact hlt)⟩
    have hrow := HC.out w2 HM.out
    obtain ⟨ad, had, hadl, a0, a1, a2⟩ := eqLit_at hrow.r2 hli
    have hc2 := hrow.n2
    rw [HNN.out] at hc2
    have hc2m := hrow.m2
    rw [had] at k2
    have HLI := Lib.hid hli
    have HF2 := HF.keep [1, 2, 5]
    simp only [pick, look] at HF2
    clear hrow had hli hd HF
    have HF := HF2
    clear HF2
    obtain ⟨lk, ln, lt⟩ := l
    simp only at a0 a1 a2
    refine sl_op HF rfl rfl (by decide) ?_; intro K hK; have e2 := HF.see 2 rfl; go_wp2_with fail; clear e2 HF; intro _ HF
    refine sl_op HF rfl rfl (by decide) ?_; intro K hK; have e76 := HF.see 76 rfl; go_wp2_with fail; clear e76 HF; intro _ HF
    refine sl_move HF rfl rfl (.inl rfl) (by decide) rfl ?_; clear HF; intro _ HF
    refine sl_op HF rfl rfl (by decide) ?_; intro K hK; have e77 := HF.see 77 rfl; have e78 := HF.see 78 rfl; go_wp2_with fail; clear e77 e78 HF; intro _ HF
    refine sl_op HF rfl rfl (by decide) ?_; intro K hK; have e79 := HF.see 79 rfl; go_wp2_with fail; clear e79 HF; intro _ HF
    refine sl_op HF rfl rfl (by decide) ?_; intro K hK; go_wp2_with fail; clear HF; intro _ HF
    refine sl_op0 HF rfl rfl ?_; intro K hK; have e6 := HF.see 6 rfl; have e80 := HF.see 80 rfl; go_wp2_with fail; clear e6 e80 HF; intro _ HF
    have hbx := Blk.new w2 45 #[.int .i64 lk, .int .i64 ln, .string (str lt)]
    have hm1 := (Mod.refl Nil w2).alloc (.cells #[.int .i64 lk, .int .i64 ln, .string (str lt)] 45)
    have HM3 := Lib.hid (HM.out.trans hm1)
    refine sl_nil (wp_seq (wp_region_lit ?_))
    change wpList _ _ _ _ _ (w2.alloc (.cells #[.int .i64 lk, .int .i64 ln, .string (str lt)] 45))
    generalize w2.alloc (.cells #[.int .i64 lk, .int .i64 ln, .string (str lt)] 45) = w3 at hbx HM3 ⊢
    generalize w2.heap.size = gx at hbx HF
    have i0 := hbx.cell 0
    have i1 := hbx.cell 1
    have i2 := hbx.cell 2
    simp only [List.getElem?_toArray, List.getElem?_cons_zero, List.getElem?_cons_succ] at i0 i1 i2
    clear hbx hm1 k2 a0 a1 a2
    have hbad : ∀ a', Sl 153 [(4, .bool false)] a' → Q .ret a' w3 := fun a' h => HBAD.out a' w3 h HM3.out
    have HBD := Lib.hid hbad
    clear hbad
    have hgood : litBad ⟨lk, ln, lt⟩ = false → ∀ a', Sl 153 [(1, .slice A5 n5 c5), (2, .pointer (some ⟨g2, 0, none⟩)), (5, .int .i64 ((i : Int) + 1))] a' → RtL c g2 n5 c5 A5 w0 a' w3 ∧ n - (intOf ((a'.tmps[5]?).getD undef)).toNat < n - (intOf ((ac2.tmps[5]?).getD undef)).toNat := fun hlb a' h => by
      refine ⟨⟨i + 1, by exact_mod_cast h, by rw [HNN.out]; omega, fun j l hj hl => ?_, HM3.out⟩, ?_⟩
      · rcases Nat.lt_or_ge j i with hji | hji
        · exact HAG.out j l hji hl
        · obtain rfl : j = i := by omega
          rw [HLI.out] at hl
          cases hl
          exact hlb
      · have e6 := h.see 5 rfl
        rw [e6, HMU.out]
        simp only [intOf]
        omega
    have HGD := Lib.hid hgood
    clear hgood
    by_cases h1 : lk < 1
    · have q1 : decide (lk < 1) = true := by simpa using h1
      refine sl_op HF rfl rfl (by decide) ?_; intro K hK; have e6 := HF.see 6 rfl; go_wp2_with fail; clear e6 HF; intro _ HF
      refine sl_op HF rfl rfl (by decide) ?_; intro K hK; have e81 := HF.see 81 rfl; go_wp2_with fail; clear e81 HF; intro _ HF
      refine sl_op HF rfl rfl (by decide) ?_; intro K hK; have e82 := HF.see 82 rfl; go_wp2_with fail; clear e82 HF; intro _ HF
      refine sl_move HF rfl rfl (.inl rfl) (by decide) rfl ?_; clear HF; intro _ HF
      refine sl_skip HF rfl rfl rfl rfl (by decide) ?_; clear HF; intro _ HF
      refine sl_skip HF rfl rfl rfl rfl (by decide) ?_; clear HF; intro _ HF
      refine sl_skip HF rfl rfl rfl rfl (by decide) ?_; clear HF; intro _ HF
      refine sl_op HF rfl rfl (by decide) ?_; intro K hK; have e84 := HF.see 84 rfl; have e87 := HF.see 87 rfl; go_wp2_with fail; clear e84 e87 HF; intro _ HF
      refine sl_move HF rfl rfl (.inl rfl) (by decide) rfl ?_; clear HF; intro _ HF
      refine sl_skip HF rfl rfl rfl rfl (by decide) ?_; clear HF; intro _ HF
      refine sl_skip HF rfl rfl rfl rfl (by decide) ?_; clear HF; intro _ HF
      refine sl_skip HF rfl rfl rfl rfl (by decide) ?_; clear HF; intro _ HF
      refine sl_skip HF rfl rfl rfl rfl (by decide) ?_; clear HF; intro _ HF
      refine sl_skip_u HF rfl rfl rfl rfl (by decide) ?_; clear HF; intro _ HF
      refine sl_skip_u HF rfl rfl rfl rfl (by decide) ?_; clear HF; intro _ HF
      refine sl_skip_u HF rfl rfl rfl rfl (by decide) ?_; clear HF; intro _ HF
      refine sl_skip HF rfl rfl rfl rfl (by decide) ?_; clear HF; intro _ HF
      refine sl_op HF rfl rfl (by decide) ?_; intro K hK; have e89 := HF.see 89 rfl; have e97 := HF.see 97 rfl; go_wp2_with fail; clear e89 e97 HF; intro _ HF
      refine sl_move HF rfl rfl (.inl rfl) (by decide) rfl ?_; clear HF; intro _ HF
      refine sl_skip HF rfl rfl rfl rfl (by decide) ?_; clear HF; intro _ HF
      refine sl_skip HF rfl rfl rfl rfl (by decide) ?_; clear HF; intro _ HF
      refine sl_skip HF rfl rfl rfl rfl (by decide) ?_; clear HF; intro _ HF
      refine sl_skip HF rfl rfl rfl rfl (by decide) ?_; clear HF; intro _ HF
      refine sl_skip_u HF rfl rfl rfl rfl (by decide) ?_; clear HF; intro _ HF
      refine sl_skip_u HF rfl rfl rfl rfl (by decide) ?_; clear HF; intro _ HF
      refine sl_skip_u HF rfl rfl rfl rfl (by decide) ?_; clear HF; intro _ HF
      refine sl_skip HF rfl rfl rfl rfl (by decide) ?_; clear HF; intro _ HF
      refine sl_op HF rfl rfl (by decide) ?_; intro K hK; have e99 := HF.see 99 rfl; have e107 := HF.see 107 rfl; go_wp2_with fail; clear e99 e107 HF; intro _ HF
      refine sl_nil (wp_cond_true (HF.at 108 rfl) (wp_seq (wp_region_lit ?_)))
      refine sl_const HF rfl rfl (.inr rfl) (by decide) ?_; clear HF; intro _ HF
      have HF2 := HF.keep [4]
      simp only [pick, look] at HF2
      exact sl_nil (wp_ret (HBD.out _ HF2))
    have q1 : decide (lk < 1) = false := by simpa using h1
    by_cases h2 : 4 < lk
    · have q2 : decide (4 < lk) = true := by simpa using h2
      refine sl_op HF rfl rfl (by decide) ?_; intro K hK; have e6 := HF.see 6 rfl; go_wp2_with fail; clear e6 HF; intro _ HF
      refine sl_op HF rfl rfl (by decide) ?_; intro K hK; have e81 := HF.see 81 rfl; go_wp2_with fail; clear e81 HF; intro _ HF
      refine sl_op HF rfl rfl (by decide) ?_; intro K hK; have e82 := HF.see 82 rfl; go_wp2_with fail; clear e82 HF; intro _ HF
      refine sl_move HF rfl rfl (.inl rfl) (by decide) rfl ?_; clear HF; intro _ HF
      refine sl_want HF rfl rfl rfl rfl (by decide) ?_; intro K hK; have e6 := HF.see 6 rfl; go_wp2_with fail; clear e6 HF; intro _ HF
      refine sl_want HF rfl rfl rfl rfl (by decide) ?_; intro K hK; have e85 := HF.see 85 rfl; go_wp2_with fail; clear e85 HF; intro _ HF
      refine sl_want HF rfl rfl rfl rfl (by decide) ?_; intro K hK; have e86 := HF.see 86 rfl; go_wp2_with fail; clear e86 HF; intro _ HF
      refine sl_op HF rfl rfl (by decide) ?_; intro K hK; have e84 := HF.see 84 rfl; have e87 := HF.see 87 rfl; go_wp2_with fail; clear e84 e87 HF; intro _ HF
      refine sl_move HF rfl rfl (.inl rfl) (by decide) rfl ?_; clear HF; intro _ HF
      refine sl_skip HF rfl rfl rfl rfl (by decide) ?_; clear HF; intro _ HF
      refine sl_skip HF rfl rfl rfl rfl (by decide) ?_; clear HF; intro _ HF
      refine sl_skip HF rfl rfl rfl rfl (by decide) ?_; clear HF; intro _ HF
      refine sl_skip HF rfl rfl rfl rfl (by decide) ?_; clear HF; intro _ HF
      refine sl_skip_u HF rfl rfl rfl rfl (by decide) ?_; clear HF; intro _ HF
      refine sl_skip_u HF rfl rfl rfl rfl (by decide) ?_; clear HF; intro _ HF
      refine sl_skip_u HF rfl rfl rfl rfl (by decide) ?_; clear HF; intro _ HF
      refine sl_skip HF rfl rfl rfl rfl (by decide) ?_; clear HF; intro _ HF
      refine sl_op HF rfl rfl (by decide) ?_; intro K hK; have e89 := HF.see 89 rfl; have e97 := HF.see 97 rfl; go_wp2_with fail; clear e89 e97 HF; intro _ HF
      refine sl_move HF rfl rfl (.inl rfl) (by decide) rfl ?_; clear HF; intro _ HF
      refine sl_skip HF rfl rfl rfl rfl (by decide) ?_; clear HF; intro _ HF
      refine sl_skip HF rfl rfl rfl rfl (by decide) ?_; clear HF; intro _ HF
      refine sl_skip HF rfl rfl rfl rfl (by decide) ?_; clear HF; intro _ HF
      refine sl_skip HF rfl rfl rfl rfl (by decide) ?_; clear HF; intro _ HF
      refine sl_skip_u HF rfl rfl rfl rfl (by decide) ?_; clear HF; intro _ HF
      refine sl_skip_u HF rfl rfl rfl rfl (by decide) ?_; clear HF; intro _ HF
      refine sl_skip_u HF rfl rfl rfl rfl (by decide) ?_; clear HF; intro _ HF
      refine sl_skip HF rfl rfl rfl rfl (by decide) ?_; clear HF; intro _ HF
      refine sl_op HF rfl rfl (by decide) ?_; intro K hK; have e99 := HF.see 99 rfl; have e107 := HF.see 107 rfl; go_wp2_with fail; clear e99 e107 HF; intro _ HF
      refine sl_nil (wp_cond_true (HF.at 108 rfl) (wp_seq (wp_region_lit ?_)))
      refine sl_const HF rfl rfl (.inr rfl) (by decide) ?_; clear HF; intro _ HF
      have HF2 := HF.keep [4]
      simp only [pick, look] at HF2
      exact sl_nil (wp_ret (HBD.out _ HF2))
    have q2 : decide (4 < lk) = false := by simpa using h2
    rcases q3 : (lk == 1) with _ | _
    · have q3' : (lk != 1) = true := by rw [bne, q3]; rfl
      rcases q4 : (ln == 0) with _ | _
      · have q4' : (ln != 0) = true := by rw [bne, q4]; rfl
        refine sl_op HF rfl rfl (by decide) ?_; intro K hK; have e6 := HF.see 6 rfl; go_wp2_with fail; clear e6 HF; intro _ HF
        refine sl_op HF rfl rfl (by decide) ?_; intro K hK; have e81 := HF.see 81 rfl; go_wp2_with fail; clear e81 HF; intro _ HF
        refine sl_op HF rfl rfl (by decide) ?_; intro K hK; have e82 := HF.see 82 rfl; go_wp2_with fail; clear e82 HF; intro _ HF
        refine sl_move HF rfl rfl (.inl rfl) (by decide) rfl ?_; clear HF; intro _ HF
        refine sl_want HF rfl rfl rfl rfl (by decide) ?_; intro K hK; have e6 := HF.see 6 rfl; go_wp2_with fail; clear e6 HF; intro _ HF
        refine sl_want HF rfl rfl rfl rfl (by decide) ?_; intro K hK; have e85 := HF.see 85 rfl; go_wp2_with fail; clear e85 HF; intro _ HF
        refine sl_want HF rfl rfl rfl rfl (by decide) ?_; intro K hK; have e86 := HF.see 86 rfl; go_wp2_with fail; clear e86 HF; intro _ HF
        refine sl_op HF rfl rfl (by decide) ?_; intro K hK; have e84 := HF.see 84 rfl; have e87 := HF.see 87 rfl; go_wp2_with fail; clear e84 e87 HF; intro _ HF
        refine sl_move HF rfl rfl (.inl rfl) (by decide) rfl ?_; clear HF; intro _ HF
        refine sl_want HF rfl rfl rfl rfl (by decide) ?_; intro K hK; have e6 := HF.see 6 rfl; go_wp2_with fail; clear e6 HF; intro _ HF
        refine sl_want HF rfl rfl rfl rfl (by decide) ?_; intro K hK; have e90 := HF.see 90 rfl; go_wp2_with fail; clear e90 HF; intro _ HF
        refine sl_want HF rfl rfl rfl rfl (by decide) ?_; intro K hK; have e91 := HF.see 91 rfl; go_wp2_with fail; clear e91 HF; intro _ HF
        refine sl_want HF rfl rfl rfl rfl (by decide) ?_; intro K hK; have e92 := HF.see 92 rfl; go_wp2_with fail; clear e92 HF; intro _ HF
        refine sl_skip HF rfl rfl rfl rfl (by decide) ?_; clear HF; intro _ HF
        refine sl_skip HF rfl rfl rfl rfl (by decide) ?_; clear HF; intro _ HF
        refine sl_skip HF rfl rfl rfl rfl (by decide) ?_; clear HF; intro _ HF
        refine sl_want HF rfl rfl rfl rfl (by decide) ?_; intro K hK; have e93 := HF.see 93 rfl; have e96 := HF.see 96 rfl; go_wp2_with fail; clear e93 e96 HF; intro _ HF
        refine sl_op HF rfl rfl (by decide) ?_; intro K hK; have e89 := HF.see 89 rfl; have e97 := HF.see 97 rfl; go_wp2_with fail; clear e89 e97 HF; intro _ HF
        refine sl_move HF rfl rfl (.inl rfl) (by decide) rfl ?_; clear HF; intro _ HF
        refine sl_want HF rfl rfl rfl rfl (by decide) ?_; intro K hK; have e6 := HF.see 6 rfl; go_wp2_with fail; clear e6 HF; intro _ HF
        refine sl_want HF rfl rfl rfl rfl (by decide) ?_; intro K hK; have e100 := HF.see 100 rfl; go_wp2_with fail; clear e100 HF; intro _ HF
        refine sl_want HF rfl rfl rfl rfl (by decide) ?_; intro K hK; have e101 := HF.see 101 rfl; go_wp2_with fail; clear e101 HF; intro _ HF
        refine sl_want HF rfl rfl rfl rfl (by decide) ?_; intro K hK; have e102 := HF.see 102 rfl; go_wp2_with fail; clear e102 HF; intro _ HF
        refine sl_want HF rfl rfl rfl rfl (by decide) ?_; intro K hK; have e6 := HF.see 6 rfl; go_wp2_with fail; clear e6 HF; intro _ HF
        refine sl_want HF rfl rfl rfl rfl (by decide) ?_; intro K hK; have e104 := HF.see 104 rfl; go_wp2_with fail; clear e104 HF; intro _ HF
        refine sl_want HF rfl rfl rfl rfl (by decide) ?_; intro K hK; have e105 := HF.see 105 rfl; go_wp2_with fail; clear e105 HF; intro _ HF
        refine sl_want HF rfl rfl rfl rfl (by decide) ?_; intro K hK; have e103 := HF.see 103 rfl; have e106 := HF.see 106 rfl; go_wp2_with fail; clear e103 e106 HF; intro _ HF
        refine sl_op HF rfl rfl (by decide) ?_; intro K hK; have e99 := HF.see 99 rfl; have e107 := HF.see 107 rfl; go_wp2_with fail; clear e99 e107 HF; intro _ HF
        refine sl_nil (wp_cond_true (HF.at 108 rfl) (wp_seq (wp_region_lit ?_)))
        refine sl_const HF rfl rfl (.inr rfl) (by decide) ?_; clear HF; intro _ HF
        have HF2 := HF.keep [4]
        simp only [pick, look] at HF2
        exact sl_nil (wp_ret (HBD.out _ HF2))
      · have q4' : (ln != 0) = false := by rw [bne, q4]; rfl
        have HLB := Lib.hid (show litBad ⟨lk, ln, lt⟩ = false by unfold litBad; simp only; rw [q1, q2, q3, q4]; rfl)
        refine sl_op HF rfl rfl (by decide) ?_; intro K hK; have e6 := HF.see 6 rfl; go_wp2_with fail; clear e6 HF; intro _ HF
        refine sl_op HF rfl rfl (by decide) ?_; intro K hK; have e81 := HF.see 81 rfl; go_wp2_with fail; clear e81 HF; intro _ HF
        refine sl_op HF rfl rfl (by decide) ?_; intro K hK; have e82 := HF.see 82 rfl; go_wp2_with fail; clear e82 HF; intro _ HF
        refine sl_move HF rfl rfl (.inl rfl) (by decide) rfl ?_; clear HF; intro _ HF
        refine sl_want HF rfl rfl rfl rfl (by decide) ?_; intro K hK; have e6 := HF.see 6 rfl; go_wp2_with fail; clear e6 HF; intro _ HF
        refine sl_want HF rfl rfl rfl rfl (by decide) ?_; intro K hK; have e85 := HF.see 85 rfl; go_wp2_with fail; clear e85 HF; intro _ HF
        refine sl_want HF rfl rfl rfl rfl (by decide) ?_; intro K hK; have e86 := HF.see 86 rfl; go_wp2_with fail; clear e86 HF; intro _ HF
        refine sl_op HF rfl rfl (by decide) ?_; intro K hK; have e84 := HF.see 84 rfl; have e87 := HF.see 87 rfl; go_wp2_with fail; clear e84 e87 HF; intro _ HF
        refine sl_move HF rfl rfl (.inl rfl) (by decide) rfl ?_; clear HF; intro _ HF
        refine sl_want HF rfl rfl rfl rfl (by decide) ?_; intro K hK; have e6 := HF.see 6 rfl; go_wp2_with fail; clear e6 HF; intro _ HF
        refine sl_want HF rfl rfl rfl rfl (by decide) ?_; intro K hK; have e90 := HF.see 90 rfl; go_wp2_with fail; clear e90 HF; intro _ HF
        refine sl_want HF rfl rfl rfl rfl (by decide) ?_; intro K hK; have e91 := HF.see 91 rfl; go_wp2_with fail; clear e91 HF; intro _ HF
        refine sl_want HF rfl rfl rfl rfl (by decide) ?_; intro K hK; have e92 := HF.see 92 rfl; go_wp2_with fail; clear e92 HF; intro _ HF
        refine sl_skip HF rfl rfl rfl rfl (by decide) ?_; clear HF; intro _ HF
        refine sl_skip HF rfl rfl rfl rfl (by decide) ?_; clear HF; intro _ HF
        refine sl_skip HF rfl rfl rfl rfl (by decide) ?_; clear HF; intro _ HF
        refine sl_want HF rfl rfl rfl rfl (by decide) ?_; intro K hK; have e93 := HF.see 93 rfl; have e96 := HF.see 96 rfl; go_wp2_with fail; clear e93 e96 HF; intro _ HF
        refine sl_op HF rfl rfl (by decide) ?_; intro K hK; have e89 := HF.see 89 rfl; have e97 := HF.see 97 rfl; go_wp2_with fail; clear e89 e97 HF; intro _ HF
        refine sl_move HF rfl rfl (.inl rfl) (by decide) rfl ?_; clear HF; intro _ HF
        refine sl_want HF rfl rfl rfl rfl (by decide) ?_; intro K hK; have e6 := HF.see 6 rfl; go_wp2_with fail; clear e6 HF; intro _ HF
        refine sl_want HF rfl rfl rfl rfl (by decide) ?_; intro K hK; have e100 := HF.see 100 rfl; go_wp2_with fail; clear e100 HF; intro _ HF
        refine sl_want HF rfl rfl rfl rfl (by decide) ?_; intro K hK; have e101 := HF.see 101 rfl; go_wp2_with fail; clear e101 HF; intro _ HF
        refine sl_want HF rfl rfl rfl rfl (by decide) ?_; intro K hK; have e102 := HF.see 102 rfl; go_wp2_with fail; clear e102 HF; intro _ HF
        refine sl_want HF rfl rfl rfl rfl (by decide) ?_; intro K hK; have e6 := HF.see 6 rfl; go_wp2_with fail; clear e6 HF; intro _ HF
        refine sl_want HF rfl rfl rfl rfl (by decide) ?_; intro K hK; have e104 := HF.see 104 rfl; go_wp2_with fail; clear e104 HF; intro _ HF
        refine sl_want HF rfl rfl rfl rfl (by decide) ?_; intro K hK; have e105 := HF.see 105 rfl; go_wp2_with fail; clear e105 HF; intro _ HF
        refine sl_want HF rfl rfl rfl rfl (by decide) ?_; intro K hK; have e103 := HF.see 103 rfl; have e106 := HF.see 106 rfl; go_wp2_with fail; clear e103 e106 HF; intro _ HF
        refine sl_op HF rfl rfl (by decide) ?_; intro K hK; have e99 := HF.see 99 rfl; have e107 := HF.see 107 rfl; go_wp2_with fail; clear e99 e107 HF; intro _ HF
        refine sl_nil (wp_cond_false (HF.at 108 rfl) (wp_skip ?_))
        dsimp only [Exit.then, Exit.inBlock]
        refine wp_region_lit ?_
        refine sl_move HF rfl rfl (.inl rfl) (by decide) rfl ?_; clear HF; intro _ HF
        refine sl_op HF rfl rfl (by decide) ?_; intro K hK; have e74 := HF.see 74 rfl; go_wp2_with fail; clear e74 HF; intro _ HF
        refine sl_move HF rfl rfl (.inr rfl) (by decide) rfl ?_; clear HF; intro _ HF
        have HF2 := HF.keep [1, 2, 5]
        simp only [pick, look] at HF2
        refine wpList_nil ?_
        show _ ∧ _
        exact HGD.out HLB.out _ HF2
    · have q3' : (lk != 1) = false := by rw [bne, q3]; rfl
      rcases lt with _ | ⟨t0, lt⟩
      · have HLB := Lib.hid (show litBad ⟨lk, ln, []⟩ = false by unfold litBad; simp only; rw [q1, q2, q3]; rfl)
        have hse : (str []).toList = [] := cstr_toList []
        refine sl_op HF rfl rfl (by decide) ?_; intro K hK; have e6 := HF.see 6 rfl; go_wp2_with fail; clear e6 HF; intro _ HF
        refine sl_op HF rfl rfl (by decide) ?_; intro K hK; have e81 := HF.see 81 rfl; go_wp2_with fail; clear e81 HF; intro _ HF
        refine sl_op HF rfl rfl (by decide) ?_; intro K hK; have e82 := HF.see 82 rfl; go_wp2_with fail; clear e82 HF; intro _ HF
        refine sl_move HF rfl rfl (.inl rfl) (by decide) rfl ?_; clear HF; intro _ HF
        refine sl_want HF rfl rfl rfl rfl (by decide) ?_; intro K hK; have e6 := HF.see 6 rfl; go_wp2_with fail; clear e6 HF; intro _ HF
        refine sl_want HF rfl rfl rfl rfl (by decide) ?_; intro K hK; have e85 := HF.see 85 rfl; go_wp2_with fail; clear e85 HF; intro _ HF
        refine sl_want HF rfl rfl rfl rfl (by decide) ?_; intro K hK; have e86 := HF.see 86 rfl; go_wp2_with fail; clear e86 HF; intro _ HF
        refine sl_op HF rfl rfl (by decide) ?_; intro K hK; have e84 := HF.see 84 rfl; have e87 := HF.see 87 rfl; go_wp2_with fail; clear e84 e87 HF; intro _ HF
        refine sl_move HF rfl rfl (.inl rfl) (by decide) rfl ?_; clear HF; intro _ HF
        refine sl_want HF rfl rfl rfl rfl (by decide) ?_; intro K hK; have e6 := HF.see 6 rfl; go_wp2_with fail; clear e6 HF; intro _ HF
        refine sl_want HF rfl rfl rfl rfl (by decide) ?_; intro K hK; have e90 := HF.see 90 rfl; go_wp2_with fail; clear e90 HF; intro _ HF
        refine sl_want HF rfl rfl rfl rfl (by decide) ?_; intro K hK; have e91 := HF.see 91 rfl; go_wp2_with fail; clear e91 HF; intro _ HF
        refine sl_want HF rfl rfl rfl rfl (by decide) ?_; intro K hK; have e92 := HF.see 92 rfl; go_wp2_with fail; clear e92 HF; intro _ HF
        refine sl_want HF rfl rfl rfl rfl (by decide) ?_; intro K hK; have e6 := HF.see 6 rfl; go_wp2_with fail; clear e6 HF; intro _ HF
        refine sl_want HF rfl rfl rfl rfl (by decide) ?_; intro K hK; have e94 := HF.see 94 rfl; go_wp2_with fail; clear e94 HF; intro _ HF
        refine sl_want HF rfl rfl rfl rfl (by decide) ?_; intro K hK; have e95 := HF.see 95 rfl; go_wp2_with fail; clear e95 HF; intro _ HF
        refine sl_want HF rfl rfl rfl rfl (by decide) ?_; intro K hK; have e93 := HF.see 93 rfl; have e96 := HF.see 96 rfl; go_wp2_with fail; clear e93 e96 HF; intro _ HF
        refine sl_op HF rfl rfl (by decide) ?_; intro K hK; have e89 := HF.see 89 rfl; have e97 := HF.see 97 rfl; go_wp2_with fail; clear e89 e97 HF; intro _ HF
        refine sl_move HF rfl rfl (.inl rfl) (by decide) rfl ?_; clear HF; intro _ HF
        refine sl_want HF rfl rfl rfl rfl (by decide) ?_; intro K hK; have e6 := HF.see 6 rfl; go_wp2_with fail; clear e6 HF; intro _ HF
        refine sl_want HF rfl rfl rfl rfl (by decide) ?_; intro K hK; have e100 := HF.see 100 rfl; go_wp2_with fail; clear e100 HF; intro _ HF
        refine sl_want HF rfl rfl rfl rfl (by decide) ?_; intro K hK; have e101 := HF.see 101 rfl; go_wp2_with fail; clear e101 HF; intro _ HF
        refine sl_want HF rfl rfl rfl rfl (by decide) ?_; intro K hK; have e102 := HF.see 102 rfl; go_wp2_with fail; clear e102 HF; intro _ HF
        refine sl_skip HF rfl rfl rfl rfl (by decide) ?_; clear HF; intro _ HF
        refine sl_skip HF rfl rfl rfl rfl (by decide) ?_; clear HF; intro _ HF
        refine sl_skip HF rfl rfl rfl rfl (by decide) ?_; clear HF; intro _ HF
        refine sl_want HF rfl rfl rfl rfl (by decide) ?_; intro K hK; have e103 := HF.see 103 rfl; have e106 := HF.see 106 rfl; go_wp2_with fail; clear e103 e106 HF; intro _ HF
        refine sl_op HF rfl rfl (by decide) ?_; intro K hK; have e99 := HF.see 99 rfl; have e107 := HF.see 107 rfl; go_wp2_with fail; clear e99 e107 HF; intro _ HF
        refine sl_nil (wp_cond_false (HF.at 108 rfl) (wp_skip ?_))
        dsimp only [Exit.then, Exit.inBlock]
        refine wp_region_lit ?_
        refine sl_move HF rfl rfl (.inl rfl) (by decide) rfl ?_; clear HF; intro _ HF
        refine sl_op HF rfl rfl (by decide) ?_; intro K hK; have e74 := HF.see 74 rfl; go_wp2_with fail; clear e74 HF; intro _ HF
        refine sl_move HF rfl rfl (.inr rfl) (by decide) rfl ?_; clear HF; intro _ HF
        have HF2 := HF.keep [1, 2, 5]
        simp only [pick, look] at HF2
        refine wpList_nil ?_
        show _ ∧ _
        exact HGD.out HLB.out _ HF2
      · have hse : (str (t0 :: lt)).toList = t0 :: lt := cstr_toList _
        refine sl_op HF rfl rfl (by decide) ?_; intro K hK; have e6 := HF.see 6 rfl; go_wp2_with fail; clear e6 HF; intro _ HF
        refine sl_op HF rfl rfl (by decide) ?_; intro K hK; have e81 := HF.see 81 rfl; go_wp2_with fail; clear e81 HF; intro _ HF
        refine sl_op HF rfl rfl (by decide) ?_; intro K hK; have e82 := HF.see 82 rfl; go_wp2_with fail; clear e82 HF; intro _ HF
        refine sl_move HF rfl rfl (.inl rfl) (by decide) rfl ?_; clear HF; intro _ HF
        refine sl_want HF rfl rfl rfl rfl (by decide) ?_; intro K hK; have e6 := HF.see 6 rfl; go_wp2_with fail; clear e6 HF; intro _ HF
        refine sl_want HF rfl rfl rfl rfl (by decide) ?_; intro K hK; have e85 := HF.see 85 rfl; go_wp2_with fail; clear e85 HF; intro _ HF
        refine sl_want HF rfl rfl rfl rfl (by decide) ?_; intro K hK; have e86 := HF.see 86 rfl; go_wp2_with fail; clear e86 HF; intro _ HF
        refine sl_op HF rfl rfl (by decide) ?_; intro K hK; have e84 := HF.see 84 rfl; have e87 := HF.see 87 rfl; go_wp2_with fail; clear e84 e87 HF; intro _ HF
        refine sl_move HF rfl rfl (.inl rfl) (by decide) rfl ?_; clear HF; intro _ HF
        refine sl_want HF rfl rfl rfl rfl (by decide) ?_; intro K hK; have e6 := HF.see 6 rfl; go_wp2_with fail; clear e6 HF; intro _ HF
        refine sl_want HF rfl rfl rfl rfl (by decide) ?_; intro K hK; have e90 := HF.see 90 rfl; go_wp2_with fail; clear e90 HF; intro _ HF
        refine sl_want HF rfl rfl rfl rfl (by decide) ?_; intro K hK; have e91 := HF.see 91 rfl; go_wp2_with fail; clear e91 HF; intro _ HF
        refine sl_want HF rfl rfl rfl rfl (by decide) ?_; intro K hK; have e92 := HF.see 92 rfl; go_wp2_with fail; clear e92 HF; intro _ HF
        refine sl_want HF rfl rfl rfl rfl (by decide) ?_; intro K hK; have e6 := HF.see 6 rfl; go_wp2_with fail; clear e6 HF; intro _ HF
        refine sl_want HF rfl rfl rfl rfl (by decide) ?_; intro K hK; have e94 := HF.see 94 rfl; go_wp2_with fail; clear e94 HF; intro _ HF
        refine sl_want HF rfl rfl rfl rfl (by decide) ?_; intro K hK; have e95 := HF.see 95 rfl; go_wp2_with fail; clear e95 HF; intro _ HF
        refine sl_want HF rfl rfl rfl rfl (by decide) ?_; intro K hK; have e93 := HF.see 93 rfl; have e96 := HF.see 96 rfl; go_wp2_with fail; clear e93 e96 HF; intro _ HF
        refine sl_op HF rfl rfl (by decide) ?_; intro K hK; have e89 := HF.see 89 rfl; have e97 := HF.see 97 rfl; go_wp2_with fail; clear e89 e97 HF; intro _ HF
        refine sl_move HF rfl rfl (.inl rfl) (by decide) rfl ?_; clear HF; intro _ HF
        refine sl_skip HF rfl rfl rfl rfl (by decide) ?_; clear HF; intro _ HF
        refine sl_skip HF rfl rfl rfl rfl (by decide) ?_; clear HF; intro _ HF
        refine sl_skip HF rfl rfl rfl rfl (by decide) ?_; clear HF; intro _ HF
        refine sl_skip HF rfl rfl rfl rfl (by decide) ?_; clear HF; intro _ HF
        refine sl_skip_u HF rfl rfl rfl rfl (by decide) ?_; clear HF; intro _ HF
        refine sl_skip_u HF rfl rfl rfl rfl (by decide) ?_; clear HF; intro _ HF
        refine sl_skip_u HF rfl rfl rfl rfl (by decide) ?_; clear HF; intro _ HF
        refine sl_skip HF rfl rfl rfl rfl (by decide) ?_; clear HF; intro _ HF
        refine sl_op HF rfl rfl (by decide) ?_; intro K hK; have e99 := HF.see 99 rfl; have e107 := HF.see 107 rfl; go_wp2_with fail; clear e99 e107 HF; intro _ HF
        refine sl_nil (wp_cond_true (HF.at 108 rfl) (wp_seq (wp_region_lit ?_)))
        refine sl_const HF rfl rfl (.inr rfl) (by decide) ?_; clear HF; intro _ HF
        have HF2 := HF.keep [4]
        simp only [pick, look] at HF2
        exact sl_nil (wp_ret (HBD.out _ HF2))
  · have hd : decide ((i : Int) < (n : Int)) = false := by simp; omega
    refine wp_seq (wp_seq (wp_region_lit ?_))
    refine sl_move HF rfl rfl (.inl rfl) (by decide) rfl ?_; clear HF; intro _ HF
    refine sl_op HF rfl rfl (by decide) ?_; intro K hK; have e2 := HF.see 2 rfl; go_wp2_with fail; clear e2 HF; intro _ HF
    refine sl_op HF rfl rfl (by decide) ?_; intro K hK; have e70 := HF.see 70 rfl; go_wp2_with fail; clear e70 HF; intro _ HF
    refine sl_op HF rfl rfl (by decide) ?_; intro K hK; have e71 := HF.see 71 rfl; go_wp2_with fail; clear e71 HF; intro _ HF
    refine sl_op HF rfl rfl (by decide) ?_; intro K hK; have e69 := HF.see 69 rfl; have e72 := HF.see 72 rfl; go_wp2_with fail; clear e69 e72 HF; intro _ HF
    refine sl_nil (wp_cond_false (HF.at 73 rfl) (wp_exit ?_))
    dsimp only [Exit.then]
    refine sl_exit ?_
    have HF2 := HF.keep [1, 2]
    simp only [pick, look] at HF2
    refine HOK.out _ _ HF2 ?_ HM.out
    rw [List.any_eq_false]
    intro l hl
    obtain ⟨j, hj⟩ := List.getElem?_of_mem hl
    rw [HAG.out j l (by have := (List.getElem?_eq_some_iff.1 hj).1; rw [HNN.out] at this; omega) hj]
    decide

/-- So many instructions looked at. -/
def RtI (c : CodeT) (ar : List CodeT) (g2 n5 c5 : Nat) (A5 : Option Addr) (w0 : World) (ac : Act) (w : World) : Prop :=
  ∃ i : Nat, Sl 153 [(1, .slice A5 n5 c5), (2, .pointer (some ⟨g2, 0, none⟩)), (7, .int .i64 (i : Nat))] ac ∧ i ≤ c.ins.length ∧ (∀ j x, j < i → c.ins[j]? = some x → mayF c ar x = true) ∧ Mod Nil w0 w

set_option maxHeartbeats 3200000 in
set_option maxRecDepth 100000 in
theorem rt_ins {Q : Exit → Act → World → Prop} {ac : Act} {w0 w : World} {c : CodeT} {v : CodeV} {ar : List CodeT} {rows : List (List Value)} {A5 : Option Addr} {n5 c5 g2 : Nat}
    (HF : Sl 153 [(1, .slice A5 n5 c5), (2, .pointer (some ⟨g2, 0, none⟩)), (7, .int .i64 (0 : Nat))] ac)
    (hf : KF w0 c v ar rows A5 n5 c5) (hk : Blk w0 g2 26 (codeArr c v)) (hn2 : c.ins.length ≤ 20000) (hm : Mod Nil w0 w)
    (hBad : ∀ a' w', Sl 153 [(4, .bool false)] a' → Mod Nil w0 w' → Q .ret a' w')
    (hOk : ∀ a' w', Sl 153 [(1, .slice A5 n5 c5), (2, .pointer (some ⟨g2, 0, none⟩))] a' → (∀ x ∈ c.ins, mayF c ar x = true) → Mod Nil w0 w' → Q .normal a' w') :
    (part [1, 1, 1, 1, 0, 1] rtBody).wp Tryd.prog Q ac w := by
  have HBAD := Lib.hid hBad
  have HOK := Lib.hid hOk
  have HC := Lib.hid hf
  have HKB := Lib.hid hk
  obtain ⟨n, hnn⟩ : ∃ n, c.ins.length = n := ⟨_, rfl⟩
  have HNN := Lib.hid hnn
  rw [hnn] at hn2
  clear hBad hOk hf hk hnn
  conv => arg 2; whnf
  refine wp_block (wp_loop (RtI c ar g2 n5 c5 A5 w0) (fun ac _ => n - (intOf (ac.eval (.tmp 7))).toNat) ⟨0, HF, Nat.zero_le _, (fun j l hj => absurd hj (by omega)), hm⟩ ?_)
  clear HF hm
  rintro ac2 w2 ⟨i, HF, hin, hag, hm⟩
  rw [HNN.out] at hin
  have HMU := Lib.hid (show n - (intOf ((ac2.tmps[7]?).getD undef)).toNat = n - i by rw [HF.see 7 rfl]; simp [intOf])
  have HAG := Lib.hid hag
  have HM := Lib.hid hm
  have hk2 := HKB.out.keep hm id
  have HK2 := Lib.hid hk2
  obtain ⟨k0, k1, k2, k3, k4, k5⟩ := code_boxed hk2
  rw [HNN.out] at k3
  clear hag hm hk2 k0 k1 k2 k4 k5
  by_cases hlt : i < n
  · have hd : decide ((i : Int) < (n : Int)) = true := by simp; omega
    refine wp_seq (wp_seq (wp_region_lit ?_))
    refine sl_move HF rfl rfl (.inl rfl) (by decide) rfl ?_; clear HF; intro _ HF
    refine sl_op HF rfl rfl (by decide) ?_; intro K hK; have e2 := HF.see 2 rfl; go_wp2_with fail; clear e2 HF; intro _ HF
    refine sl_op HF rfl rfl (by decide) ?_; intro K hK; have e110 := HF.see 110 rfl; go_wp2_with fail; clear e110 HF; intro _ HF
    refine sl_op HF rfl rfl (by decide) ?_; intro K hK; have e111 := HF.see 111 rfl; go_wp2_with fail; clear e111 HF; intro _ HF
    refine sl_op HF rfl rfl (by decide) ?_; intro K hK; have e109 := HF.see 109 rfl; have e112 := HF.see 112 rfl; go_wp2_with fail; clear e109 e112 HF; intro _ HF
    refine sl_nil (wp_cond_true (HF.at 113 rfl) (wp_skip (sl_then (wp_seq (wp_block (wp_seq ?_))))))
    obtain ⟨x, hxi⟩ : ∃ x, c.ins[i]? = some x := ⟨_, List.getElem?_eq_getElem (by rw [HNN.out]; exact hlt)⟩
    have HXI := Lib.hid hxi
    have hokx := (HC.out.kf w2 HM.out).oki x (List.mem_of_getElem? hxi)
    have hc3 := (HC.out.kf w2 HM.out).n3
    rw [HNN.out] at hc3
    have hc3m := (HC.out.kf w2 HM.out).m3
    have HF2 := HF.keep [1, 2, 7]
    simp only [pick, look] at HF2
    clear hd HF k3
    have HF := HF2
    clear HF2
    obtain ⟨W, hW⟩ : ∃ W, W = w2.drew := ⟨_, rfl⟩
    have HW := Lib.hid hW
    have HMW := Lib.hid (show ∀ wx, Mod Nil W wx → Mod Nil w0 wx from fun wx h => HM.out.trans (((Mod.refl Nil w2).drew).trans (hW ▸ h)))
    have HFS := Lib.hid (show ∀ wx, Mod Nil W wx → Blk wx g2 26 (codeArr c v) from fun wx h => HK2.out.keep (((Mod.refl Nil w2).drew).trans (hW ▸ h)) id)
    clear hW
    obtain ⟨ad, hA3, _⟩ := eqIns_at (HC.out.kf w2 HM.out).r3 hxi
    have HIN := Lib.hid (show ∀ wx, Mod Nil W wx → ad.block < wx.heap.size ∧ wx.cell? (ad.add (i * 3)) = some (.int .i64 x.op) ∧ wx.cell? ⟨(ad.add (i * 3)).block, (ad.add (i * 3)).off + 1, none⟩ = some (.int .i64 x.a) ∧ wx.cell? ⟨(ad.add (i * 3)).block, (ad.add (i * 3)).off + 2, none⟩ = some (.int .i64 x.b) from fun wx h => by
      obtain ⟨ad', e1, e2, e3, e4, e5⟩ := eqIns_at (HC.out.kf wx (HMW.out wx h)).r3 hxi
      rw [hA3] at e1
      cases e1
      exact ⟨e2, e3, e4, e5⟩)
    have HA3 := Lib.hid hA3
    have HMY := Lib.hid (fun wx (h : Mod Nil W wx) => rMay_any (c := c) (v := v) x wx (HC.out.keep (HMW.out wx h)) hokx)
    unfold codeArr at HMY
    clear hA3 hxi
    obtain ⟨xo, xa, xb⟩ := x
    simp only at HIN HMY
    apply sl_flow6 (N := 1) [some 116, some 117, some 118, some 119, some 120, some 121, some 122, some 123, some 124] [.quiet [] [0], .quiet [] [0], .quiet [] [0], .quiet [] [0], .quiet [] [0], .quiet [] [0], .quiet [] [0], .writes 0 [] [], .quiet [0] []] (PhE W (fun r => r = true → mayF c ar ⟨xo, xa, xb⟩ = true)) [_, _, _, _, _, _, _, (fun h => h 0), _] HF
    case hm => kernel_rfl
    case hok => kernel_rfl
    case hfl => rfl
    case h0 => exact (fun h => HW.out ▸ PhE.init h)
    case hobs =>
      apply And.intro
      · apply obm_quiet
        case hg => rfl
        case hop =>
          intro ax wx h S hD hE hP hk K hK
          have e2 := hk.see 2 rfl rfl
          have n0 := hE 0 (by decide)
          clear hk hD hE
          obtain ⟨k0, k1, k2, k3, k4, k5⟩ := code_boxed (HFS.out _ hP.mod)
          go_wp2_with fail
          all_goals first | exact hP | rfl
        case hst => exact fun h h' e => rfl
      apply And.intro
      · apply obm_quiet
        case hg => rfl
        case hop =>
          intro ax wx h S hD hE hP hk K hK
          have e1 := hk.see 1 rfl rfl
          have n0 := hE 0 (by decide)
          clear hk hD hE
          go_wp2_with fail
          all_goals first | exact hP | rfl
        case hst => exact fun h h' e => rfl
      apply And.intro
      · apply obm_quiet
        case hg => rfl
        case hop =>
          intro ax wx h S hD hE hP hk K hK
          have e2 := hk.see 2 rfl rfl
          have n0 := hE 0 (by decide)
          clear hk hD hE
          go_wp2_with fail
          all_goals first | exact hP | rfl
        case hst => exact fun h h' e => rfl
      apply And.intro
      · apply obm_quiet
        case hg => rfl
        case hop =>
          intro ax wx h S hD hE hP hk K hK
          have e118 := hk.see 118 rfl rfl
          have n0 := hE 0 (by decide)
          clear hk hD hE
          obtain ⟨k0, k1, k2, k3, k4, k5⟩ := code_boxed (HFS.out _ hP.mod)
          rw [HNN.out, HA3.out] at k3
          go_wp2_with fail
          all_goals first | exact hP | rfl
        case hst => exact fun h h' e => rfl
      apply And.intro
      · apply obm_quiet
        case hg => rfl
        case hop =>
          intro ax wx h S hD hE hP hk K hK
          have e7 := hk.see 7 rfl rfl
          have n0 := hE 0 (by decide)
          clear hk hD hE
          go_wp2_with fail
          all_goals first | exact hP | rfl
        case hst => exact fun h h' e => rfl
      apply And.intro
      · apply obm_quiet
        case hg => rfl
        case hop =>
          intro ax wx h S hD hE hP hk K hK
          have e119 := hk.see 119 rfl rfl
          have e120 := hk.see 120 rfl rfl
          have n0 := hE 0 (by decide)
          clear hk hD hE
          go_wp2_with fail
          all_goals first | exact hP | rfl
        case hst => exact fun h h' e => rfl
      apply And.intro
      · apply obm_quiet
        case hg => rfl
        case hop =>
          intro ax wx h S hD hE hP hk K hK
          have e121 := hk.see 121 rfl rfl
          have n0 := hE 0 (by decide)
          clear hk hD hE
          obtain ⟨hab, a0, a1, a2⟩ := HIN.out _ hP.mod
          go_wp2_with fail
          all_goals first | exact hP | rfl
        case hst => exact fun h h' e => rfl
      refine And.intro (obm_writes rfl ?op) ?_
      case op =>
        intro ax wx h S hD hE hS hP hk K hK
        have e116 := hk.see 116 rfl rfl
        have e117 := hk.see 117 rfl rfl
        have e122 := hk.see 122 rfl rfl
        clear hk hD hE
        have HP := Lib.hid hP
        clear hP
        go_wp2_with fail
        refine (HMY.out _ HP.out.mod).mono ?_
        rintro e w' ⟨r, rfl, hr, hm⟩
        exact hK _ _ (HP.out.step hm hr)
      apply And.intro
      · apply obm_quiet
        case hg => rfl
        case hop =>
          intro ax wx h S hD hE hP hk K hK
          have e123 := hk.see 123 rfl rfl
          try dsimp only at e123
          have d0 := hD 0 (by decide)
          clear hk hD hE
          rw [(hP.val d0).1] at e123
          go_wp2_with fail
          all_goals first | exact hP | rfl
        case hst => exact fun h h' e => by first | rfl | simp only [e 0 (by decide)]
      exact trivial
    intro w3 a3 h S hall hP HF
    obtain ⟨_, hmy⟩ := hP.val (hall 0 (by decide))
    have HMY2 := Lib.hid hmy
    have HM3 := Lib.hid (HMW.out _ hP.mod)
    have HF2 := HF.keep [1, 2, 7, 124]
    simp only [pick, look, laid5] at HF2
    clear HF hP hall hmy HMY HIN HFS HMW HW
    have HF := HF2
    clear HF2
    rcases hr : bOf (h 0) with _ | _
    · rw [hr] at HF
      refine sl_then (wp_cond_true (HF.at 124 rfl) (wp_seq (wp_region_lit ?_)))
      refine sl_const HF rfl rfl (.inr rfl) (by decide) ?_; clear HF; intro _ HF
      have HF2 := HF.keep [4]
      simp only [pick, look] at HF2
      exact sl_nil (wp_ret (HBAD.out _ _ HF2 HM3.out))
    · rw [hr] at HF
      have HMM := Lib.hid (HMY2.out hr)
      refine sl_then (wp_cond_false (HF.at 124 rfl) (wp_skip ?_))
      dsimp only [Exit.then, Exit.inBlock]
      refine wp_region_lit ?_
      refine sl_move HF rfl rfl (.inl rfl) (by decide) rfl ?_; clear HF; intro _ HF
      refine sl_op HF rfl rfl (by decide) ?_; intro K hK; have e114 := HF.see 114 rfl; go_wp2_with fail; clear e114 HF; intro _ HF
      refine sl_move HF rfl rfl (.inr rfl) (by decide) rfl ?_; clear HF; intro _ HF
      have HF2 := HF.keep [1, 2, 7]
      simp only [pick, look] at HF2
      refine wpList_nil ?_
      show _ ∧ _
      refine ⟨⟨i + 1, by exact_mod_cast HF2, by rw [HNN.out]; omega, fun j l hj hl => ?_, HM3.out⟩, ?_⟩
      · rcases Nat.lt_or_ge j i with hji | hji
        · exact HAG.out j l hji hl
        · obtain rfl : j = i := by omega
          rw [HXI.out] at hl
          cases hl
          exact HMM.out
      · have e6 := HF2.see 7 rfl
        try simp only [Act.eval_tmp]
        rw [e6, HMU.out]
        simp only [intOf]
        omega
  · have hd : decide ((i : Int) < (n : Int)) = false := by simp; omega
    refine wp_seq (wp_seq (wp_region_lit ?_))
    refine sl_move HF rfl rfl (.inl rfl) (by decide) rfl ?_; clear HF; intro _ HF
    refine sl_op HF rfl rfl (by decide) ?_; intro K hK; have e2 := HF.see 2 rfl; go_wp2_with fail; clear e2 HF; intro _ HF
    refine sl_op HF rfl rfl (by decide) ?_; intro K hK; have e110 := HF.see 110 rfl; go_wp2_with fail; clear e110 HF; intro _ HF
    refine sl_op HF rfl rfl (by decide) ?_; intro K hK; have e111 := HF.see 111 rfl; go_wp2_with fail; clear e111 HF; intro _ HF
    refine sl_op HF rfl rfl (by decide) ?_; intro K hK; have e109 := HF.see 109 rfl; have e112 := HF.see 112 rfl; go_wp2_with fail; clear e109 e112 HF; intro _ HF
    refine sl_nil (wp_cond_false (HF.at 113 rfl) (wp_exit ?_))
    dsimp only [Exit.then]
    refine sl_exit ?_
    have HF2 := HF.keep [1, 2]
    simp only [pick, look] at HF2
    refine HOK.out _ _ HF2 (fun x hx => ?_) HM.out
    obtain ⟨j, hj⟩ := List.getElem?_of_mem hx
    exact HAG.out j x (by have := (List.getElem?_eq_some_iff.1 hj).1; rw [HNN.out] at this; omega) hj
end Go.Proofs.YtefloadjolpgbaaDoor

namespace Go.Proofs.YtefloadjolpgbaaDoor
open Go.RowKit

/-- What right's answer says. -/
def RRt (c : CodeT) (ar : List CodeT) (w : World) (e : Ending) (w' : World) : Prop := ∃ r, e = .returned (.bool r) ∧ (r = true → RightP c ar) ∧ Mod Nil w w'

/-- What a region does that lays what is around anew, puts the code behind it and asks for a block. -/
structure PhD (W : World) (rows : List (List Value)) (cs : List Value) (n : Nat) (P : Bool → Prop) (S : Nat → Bool) (h : Hist) (w : World) : Prop where
  mod : Mod Nil W w
  s0 : S 0 = true → ∃ B, h 0 = .slice (some ⟨B, 0, none⟩) 0 0 ∧ W.heap.size ≤ B ∧ (S 1 = false → Blk w B 26 #[])
  s1 : S 1 = true → S 3 = false → w.ownsRow W.heap.size 26 6 (h 1) n rows.flatten
  s2 : S 2 = true → ∃ B, h 2 = .slice (some ⟨B, 0, none⟩) 1 1 ∧ (S 3 = false → Blk w B 26 cs.toArray)
  s3 : S 3 = true → w.ownsRow W.heap.size 26 6 (h 3) (n + 1) (rows ++ [cs]).flatten
  s4 : S 4 = true → h 4 = .bool (bOf (h 4)) ∧ P (bOf (h 4))
section
variable {W wx w' : World} {rows : List (List Value)} {cs : List Value} {n : Nat} {P : Bool → Prop} {S : Nat → Bool} {h : Hist}
theorem PhD.init (h : Hist) : PhD W rows cs n P (fun _ => false) h W := ⟨Mod.refl _ _, fun h => by (cases h), fun h => by (cases h), fun h => by (cases h), fun h => by (cases h), fun h => by cases h⟩
theorem PhD.w0 (hP : PhD W rows cs n P S h wx) (h1 : S 1 = false) (h3 : S 3 = false) (h4 : S 4 = false) :
    PhD W rows cs n P (setB S 0) (upd h 0 (.slice (some ⟨wx.heap.size, 0, none⟩) 0 0)) (wx.alloc (.cells #[] 26)) := by
  have hm := (Mod.refl Nil wx).alloc (.cells #[] 26)
  refine ⟨hP.mod.trans hm, fun _ => ⟨_, upd_same _ _ _, hP.mod.size, fun _ => Blk.new _ _ _⟩, fun h => ?_, fun h2 => ?_, fun h => ?_, fun h => ?_⟩
  · rw [setB_ne _ (by decide), h1] at h; cases h
  · rw [setB_ne _ (by decide)] at h2
    obtain ⟨B, e, hb⟩ := hP.s2 h2
    refine ⟨B, by rw [upd_ne _ _ (by decide)]; exact e, fun _ => (hb h3).keep hm id⟩
  · rw [setB_ne _ (by decide), h3] at h; cases h
  · rw [setB_ne _ (by decide), h4] at h; cases h
theorem PhD.w1 (hP : PhD W rows cs n P S h wx) (h0 : S 0 = true) (h1 : S 1 = false) (h3 : S 3 = false) (h4 : S 4 = false) (h6 : cs.length = 6) {v : Value} (hm : Mod (fun k => (h 0).ownBlock = some k) wx w') (ho : w'.ownsRow W.heap.size 26 6 v n rows.flatten) :
    PhD W rows cs n P (setB S 1) (upd h 1 v) w' := by
  obtain ⟨B0, e0, hB0, hb0⟩ := hP.s0 h0
  have hb0 := hb0 h1
  rw [e0] at hm
  refine ⟨hP.mod.trans' hm (fun _ _ h => h) (fun k hk h => by have : B0 = k := (by simpa [Value.ownBlock] using h); omega), fun _ => ⟨B0, by rw [upd_ne _ _ (by decide)]; exact e0, hB0, fun h => by rw [setB_same] at h; cases h⟩, fun _ _ => by rw [upd_same]; exact ho, fun h2 => ?_, fun h => ?_, fun h => ?_⟩
  · rw [setB_ne _ (by decide)] at h2
    obtain ⟨B, e, hb⟩ := hP.s2 h2
    refine ⟨B, by rw [upd_ne _ _ (by decide)]; exact e, fun _ => (hb h3).keep hm (fun h => ?_)⟩
    have hh : B0 = B := by simpa [Value.ownBlock] using h
    subst hh
    have h1 := hb h3
    unfold Blk at h1 hb0
    rw [hb0] at h1
    have h2 : (#[] : Array Value) = cs.toArray := by
      injection h1 with h1
      injection h1
    have := congrArg Array.size h2
    simp [h6] at this
  · rw [setB_ne _ (by decide), h3] at h; cases h
  · rw [setB_ne _ (by decide), h4] at h; cases h
theorem PhD.w2 (hP : PhD W rows cs n P S h wx) (h3 : S 3 = false) (h4 : S 4 = false) :
    PhD W rows cs n P (setB S 2) (upd h 2 (.slice (some ⟨wx.heap.size, 0, none⟩) 1 1)) (wx.alloc (.cells cs.toArray 26)) := by
  have hm := (Mod.refl Nil wx).alloc (.cells cs.toArray 26)
  refine ⟨hP.mod.trans hm, fun h0 => ?_, fun h1 _ => ?_, fun _ => ⟨_, upd_same _ _ _, fun _ => Blk.new _ _ _⟩, fun h => ?_, fun h => ?_⟩
  · rw [setB_ne _ (by decide)] at h0
    obtain ⟨B, e, hB, hb⟩ := hP.s0 h0
    exact ⟨B, by rw [upd_ne _ _ (by decide)]; exact e, hB, fun h1 => by rw [setB_ne _ (by decide)] at h1; exact (hb h1).keep hm id⟩
  · rw [setB_ne _ (by decide)] at h1
    rw [upd_ne _ _ (by decide)]
    exact (hP.s1 h1 h3).alloc _
  · rw [setB_ne _ (by decide), h3] at h; cases h
  · rw [setB_ne _ (by decide), h4] at h; cases h
theorem PhD.w3 (hP : PhD W rows cs n P S h wx) (h1 : S 1 = true) (h3 : S 3 = false) (h4 : S 4 = false) {v : Value} (hm : Mod (fun k => (h 1).ownBlock = some k) wx w') (ho : w'.ownsRow W.heap.size 26 6 v (n + 1) (rows ++ [cs]).flatten) :
    PhD W rows cs n P (setB S 3) (upd h 3 v) w' := by
  have hown := hP.s1 h1 h3
  refine ⟨hP.mod.trans' hm (fun _ _ h => h) (fun k hk h => by have := (hown.lt k h).1; omega), fun h0 => ?_, fun _ h => by (rw [setB_same] at h; cases h), fun h2 => ?_, fun _ => by rw [upd_same]; exact ho, fun h => ?_⟩
  · rw [setB_ne _ (by decide)] at h0
    obtain ⟨B, e, hB, hb⟩ := hP.s0 h0
    exact ⟨B, by rw [upd_ne _ _ (by decide)]; exact e, hB, fun h => by rw [setB_ne _ (by decide), h1] at h; cases h⟩
  · rw [setB_ne _ (by decide)] at h2
    obtain ⟨B, e, hb⟩ := hP.s2 h2
    exact ⟨B, by rw [upd_ne _ _ (by decide)]; exact e, fun h => by rw [setB_same] at h; cases h⟩
  · rw [setB_ne _ (by decide), h4] at h; cases h
theorem PhD.w4 (hP : PhD W rows cs n P S h wx) (h3 : S 3 = true) (h1 : S 1 = true) {r : Bool} (hr : P r) (hm : Mod Nil wx w') :
    PhD W rows cs n P (setB S 4) (upd h 4 (.bool r)) w' := by
  refine ⟨hP.mod.trans hm, fun h0 => ?_, fun _ h => by (rw [setB_ne _ (by decide), h3] at h; cases h), fun h2 => ?_, fun _ => ?_, fun _ => by rw [upd_same]; exact ⟨rfl, hr⟩⟩
  · rw [setB_ne _ (by decide)] at h0
    obtain ⟨B, e, hB, hb⟩ := hP.s0 h0
    exact ⟨B, by rw [upd_ne _ _ (by decide)]; exact e, hB, fun h => by rw [setB_ne _ (by decide), h1] at h; cases h⟩
  · rw [setB_ne _ (by decide)] at h2
    obtain ⟨B, e, hb⟩ := hP.s2 h2
    exact ⟨B, by rw [upd_ne _ _ (by decide)]; exact e, fun h => by rw [setB_ne _ (by decide), h3] at h; cases h⟩
  · rw [upd_ne _ _ (by decide)]
    exact own_keep (hP.s3 h3) hm (fun _ _ => id)
end

/-- So many blocks looked at. -/
def RtB (c : CodeT) (ar : List CodeT) (g2 n5 c5 : Nat) (A5 : Option Addr) (w0 : World) (ac : Act) (w : World) : Prop :=
  ∃ i : Nat, Sl 153 [(1, .slice A5 n5 c5), (2, .pointer (some ⟨g2, 0, none⟩)), (11, .int .i64 (i : Nat))] ac ∧ i ≤ c.blocks.length ∧ (∀ j x, j < i → c.blocks[j]? = some x → RightP x (ar ++ [c])) ∧ Mod Nil w0 w

set_option maxHeartbeats 3200000 in
set_option maxRecDepth 100000 in
theorem rt_blocks {Q : Exit → Act → World → Prop} {ac : Act} {w0 w : World} {c : CodeT} {v : CodeV} {ar : List CodeT} {rows : List (List Value)} {A5 : Option Addr} {n5 c5 g2 : Nat}
    (HF : Sl 153 [(1, .slice A5 n5 c5), (2, .pointer (some ⟨g2, 0, none⟩)), (11, .int .i64 (0 : Nat))] ac)
    (hf : KF w0 c v ar rows A5 n5 c5) (hk : Blk w0 g2 26 (codeArr c v)) (hn2 : c.blocks.length ≤ 4000) (ht : TxtP c) (hm : Mod Nil w0 w)
    (hI : ∀ b ∈ c.blocks, ∀ (v : CodeV) (ar : List CodeT) (rows : List (List Value)) (A5 : Option Addr) (n5 c5 : Nat) (w : World), (∀ w', Mod Nil w w' → CodeF w' b v) → CodeC w b (codeArr b v).toList → AroF w ar rows A5 n5 c5 → n5 ≤ 21 → TxtP b →
      Calls Tryd.prog 15 #[.agg (codeArr b v), .slice A5 n5 c5] w fun e w' => RRt b ar w e w')
    (hBad : ∀ a' w', Sl 153 [(4, .bool false)] a' → Mod Nil w0 w' → Q .ret a' w')
    (hOk : ∀ a' w', Sl 153 [(1, .slice A5 n5 c5), (2, .pointer (some ⟨g2, 0, none⟩))] a' → (∀ b ∈ c.blocks, RightP b (ar ++ [c])) → Mod Nil w0 w' → Q .normal a' w') :
    (part [1, 1, 1, 1, 1, 1, 1, 0, 1] rtBody).wp Tryd.prog Q ac w := by
  have HBAD := Lib.hid hBad
  have HOK := Lib.hid hOk
  have HC := Lib.hid hf
  have HKB := Lib.hid hk
  have HT := Lib.hid ht
  have HIH := Lib.hid hI
  obtain ⟨n, hnn⟩ : ∃ n, c.blocks.length = n := ⟨_, rfl⟩
  have HNN := Lib.hid hnn
  rw [hnn] at hn2
  clear hBad hOk hf hk hnn ht hI
  conv => arg 2; whnf
  refine wp_block (wp_loop (RtB c ar g2 n5 c5 A5 w0) (fun ac _ => n - (intOf (ac.eval (.tmp 11))).toNat) ⟨0, HF, Nat.zero_le _, (fun j l hj => absurd hj (by omega)), hm⟩ ?_)
  clear HF hm
  rintro ac2 w2 ⟨i, HF, hin, hag, hm⟩
  rw [HNN.out] at hin
  have HMU := Lib.hid (show n - (intOf ((ac2.tmps[11]?).getD undef)).toNat = n - i by rw [HF.see 11 rfl]; simp [intOf])
  have HAG := Lib.hid hag
  have HM := Lib.hid hm
  have hk2 := HKB.out.keep hm id
  have HK2 := Lib.hid hk2
  obtain ⟨k0, k1, k2, k3, k4, k5⟩ := code_boxed hk2
  rw [HNN.out] at k4
  clear hag hm hk2 k0 k1 k2 k3 k5
  by_cases hlt : i < n
  · have hd : decide ((i : Int) < (n : Int)) = true := by simp; omega
    refine wp_seq (wp_seq (wp_region_lit ?_))
    refine sl_move HF rfl rfl (.inl rfl) (by decide) rfl ?_; clear HF; intro _ HF
    refine sl_op HF rfl rfl (by decide) ?_; intro K hK; have e2 := HF.see 2 rfl; go_wp2_with fail; clear e2 HF; intro _ HF
    refine sl_op HF rfl rfl (by decide) ?_; intro K hK; have e134 := HF.see 134 rfl; go_wp2_with fail; clear e134 HF; intro _ HF
    refine sl_op HF rfl rfl (by decide) ?_; intro K hK; have e135 := HF.see 135 rfl; go_wp2_with fail; clear e135 HF; intro _ HF
    refine sl_op HF rfl rfl (by decide) ?_; intro K hK; have e133 := HF.see 133 rfl; have e136 := HF.see 136 rfl; go_wp2_with fail; clear e133 e136 HF; intro _ HF
    refine sl_nil (wp_cond_true (HF.at 137 rfl) (wp_skip (sl_then (wp_seq (wp_block (wp_seq ?_))))))
    obtain ⟨b, hbi⟩ : ∃ b, c.blocks[i]? = some b := ⟨_, List.getElem?_eq_getElem (by rw [HNN.out]; exact hlt)⟩
    have HBI := Lib.hid hbi
    have hc4 := (HC.out.kf w2 HM.out).n4
    rw [HNN.out] at hc4
    have hc4m := (HC.out.kf w2 HM.out).m4
    have HF2 := HF.keep [1, 2, 11]
    simp only [pick, look] at HF2
    clear hd HF k4
    have HF := HF2
    clear HF2
    obtain ⟨W, hW⟩ : ∃ W, W = w2.drew := ⟨_, rfl⟩
    have HW := Lib.hid hW
    have HMW := Lib.hid (show ∀ wx, Mod Nil W wx → Mod Nil w0 wx from fun wx h => HM.out.trans (((Mod.refl Nil w2).drew).trans (hW ▸ h)))
    have HFS := Lib.hid (show ∀ wx, Mod Nil W wx → Blk wx g2 26 (codeArr c v) from fun wx h => HK2.out.keep (((Mod.refl Nil w2).drew).trans (hW ▸ h)) id)
    clear hW
    have hkW := HC.out.keep (HMW.out W (Mod.refl _ _))
    obtain ⟨A4, c4', rowsB, e4, hrb, hrd⟩ := hkW.kc.blocks_
    have e4' : some (Value.slice v.A4 c.blocks.length v.c4) = some (.slice A4 c.blocks.length c4') := e4
    injection e4' with e4'
    injection e4' with hA4 _ e5'
    clear e5'
    obtain ⟨r, hri⟩ : ∃ r, rowsB[i]? = some r := ⟨_, List.getElem?_eq_getElem (by rw [hrb.len, HNN.out]; exact hlt)⟩
    obtain ⟨ad, u0, u1, u2, u3, u4, u5, hAd, hab, hre, q0, q1, q2, q3, q4, q5⟩ := rows_six hrd hrb.six hri
    have hbc := hrb.code i b r hbi hri
    rw [hre] at hbc
    obtain ⟨vb, hvb, _⟩ := hbc.view
    have HIN := Lib.hid (show ∀ wx, Mod Nil W wx → ad.block < wx.heap.size ∧ wx.cell? (ad.add (i * 6)) = some u0 ∧ wx.cell? ⟨(ad.add (i * 6)).block, (ad.add (i * 6)).off + 1, none⟩ = some u1 ∧ wx.cell? ⟨(ad.add (i * 6)).block, (ad.add (i * 6)).off + 2, none⟩ = some u2 ∧
        wx.cell? ⟨(ad.add (i * 6)).block, (ad.add (i * 6)).off + 3, none⟩ = some u3 ∧ wx.cell? ⟨(ad.add (i * 6)).block, (ad.add (i * 6)).off + 4, none⟩ = some u4 ∧ wx.cell? ⟨(ad.add (i * 6)).block, (ad.add (i * 6)).off + 5, none⟩ = some u5 from fun wx h => by
      have hab' : (ad.add (i * 6)).block < W.heap.size := by rw [block_of_add]; exact hab
      exact ⟨Nat.lt_of_lt_of_le hab h.size, (h.cell hab' id).trans q0, (h.cell (p := ⟨(ad.add (i * 6)).block, (ad.add (i * 6)).off + 1, none⟩) hab' id).trans q1, (h.cell (p := ⟨(ad.add (i * 6)).block, (ad.add (i * 6)).off + 2, none⟩) hab' id).trans q2,
        (h.cell (p := ⟨(ad.add (i * 6)).block, (ad.add (i * 6)).off + 3, none⟩) hab' id).trans q3, (h.cell (p := ⟨(ad.add (i * 6)).block, (ad.add (i * 6)).off + 4, none⟩) hab' id).trans q4, (h.cell (p := ⟨(ad.add (i * 6)).block, (ad.add (i * 6)).off + 5, none⟩) hab' id).trans q5⟩)
    have HA4 := Lib.hid (show v.A4 = some ad from hA4.trans hAd)
    have HCALL := Lib.hid (show ∀ wx, Mod Nil W wx → ∀ A9 c9, AroF wx (ar ++ [c]) (rows ++ [(codeArr c v).toList]) A9 (n5 + 1) c9 → Calls Tryd.prog 15 #[.agg #[u0, u1, u2, u3, u4, u5], .slice A9 (n5 + 1) c9] wx fun e w' => RRt b (ar ++ [c]) wx e w' from fun wx h A9 c9 hA => by
      have hbx := hbc.keep h
      obtain ⟨vx, hvx, hfx⟩ := hbx.view
      have hvx' : #[u0, u1, u2, u3, u4, u5] = codeArr b vx := hvx
      rw [hvx']
      exact HIH.out b (List.mem_of_getElem? hbi) vx _ _ A9 _ c9 wx hfx (by rw [← hvx]; simpa using hbx) hA (by have := HC.out.kn; omega) (HT.out.blk b (List.mem_of_getElem? hbi)))
    have HAW := Lib.hid hkW
    clear hbi hrb hrd e4 hA4 hri hAd hab hre q0 q1 q2 q3 q4 q5 hbc hvb hkW
    obtain ⟨i0, hi, hz0, hz1, hz2⟩ := info_parts code_info
    apply sl_flow6 (N := 5) [some 140, some 141, some 142, some 143, some 144, some 145, some 146, some 147, some 148, some 149, some 150, some 151, some 152] [.quiet [] [4], .quiet [] [4], .quiet [] [4], .quiet [] [4], .quiet [] [4], .writes 0 [] [1, 3, 4], .quiet [] [1, 3, 4], .writes 1 [0] [3, 4], .quiet [] [2, 3, 4], .writes 2 [] [3, 4], .writes 3 [0, 1, 2] [4], .writes 4 [0, 1, 2, 3] [], .quiet [0, 1, 2, 3, 4] []] (PhD W rows (codeArr c v).toList n5 (fun r => r = true → RightP b (ar ++ [c]))) [_, _, _, _, _, (fun h => h 0), _, (fun h => h 1), _, (fun h => h 2), (fun h => h 3), (fun h => h 4), _] HF
    case hm => kernel_rfl
    case hok => kernel_rfl
    case hfl => rfl
    case h0 => exact (fun h => HW.out ▸ PhD.init h)
    case hobs =>
      apply And.intro
      · apply obm_quiet
        case hg => rfl
        case hop =>
          intro ax wx h S hD hE hP hk K hK
          have e2 := hk.see 2 rfl rfl
          have n4 := hE 4 (by decide)
          clear hk hD hE
          go_wp2_with fail
          all_goals first | exact hP | rfl
        case hst => exact fun h h' e => rfl
      apply And.intro
      · apply obm_quiet
        case hg => rfl
        case hop =>
          intro ax wx h S hD hE hP hk K hK
          have e140 := hk.see 140 rfl rfl
          have n4 := hE 4 (by decide)
          clear hk hD hE
          obtain ⟨k0, k1, k2, k3, k4, k5⟩ := code_boxed (HFS.out _ hP.mod)
          rw [HNN.out, HA4.out] at k4
          go_wp2_with fail
          all_goals first | exact hP | rfl
        case hst => exact fun h h' e => rfl
      apply And.intro
      · apply obm_quiet
        case hg => rfl
        case hop =>
          intro ax wx h S hD hE hP hk K hK
          have e11 := hk.see 11 rfl rfl
          have n4 := hE 4 (by decide)
          clear hk hD hE
          go_wp2_with fail
          all_goals first | exact hP | rfl
        case hst => exact fun h h' e => rfl
      apply And.intro
      · apply obm_quiet
        case hg => rfl
        case hop =>
          intro ax wx h S hD hE hP hk K hK
          have e141 := hk.see 141 rfl rfl
          have e142 := hk.see 142 rfl rfl
          have n4 := hE 4 (by decide)
          clear hk hD hE
          go_wp2_with fail
          all_goals first | exact hP | rfl
        case hst => exact fun h h' e => rfl
      apply And.intro
      · apply obm_quiet
        case hg => rfl
        case hop =>
          intro ax wx h S hD hE hP hk K hK
          have e143 := hk.see 143 rfl rfl
          have n4 := hE 4 (by decide)
          clear hk hD hE
          obtain ⟨hab, q0, q1, q2, q3, q4, q5⟩ := HIN.out _ hP.mod
          go_wp2_with fail
          all_goals first | exact hP | rfl
        case hst => exact fun h h' e => rfl
      refine And.intro (obm_writes rfl ?op) ?_
      case op =>
        intro ax wx h S hD hE hS hP hk K hK
        have n1 := hE 1 (by decide)
        have n3 := hE 3 (by decide)
        have n4 := hE 4 (by decide)
        clear hk hD hE
        have HP := Lib.hid hP
        clear hP
        go_wp2_with fail
        exact HP.out.w0 n1 n3 n4
      apply And.intro
      · apply obm_quiet
        case hg => rfl
        case hop =>
          intro ax wx h S hD hE hP hk K hK
          have e1 := hk.see 1 rfl rfl
          have n1 := hE 1 (by decide)
          have n3 := hE 3 (by decide)
          have n4 := hE 4 (by decide)
          clear hk hD hE
          go_wp2_with fail
          all_goals first | exact hP | rfl
        case hst => exact fun h h' e => rfl
      refine And.intro (obm_writes rfl ?op) ?_
      case op =>
        intro ax wx h S hD hE hS hP hk K hK
        have e145 := hk.see 145 rfl rfl
        have e146 := hk.see 146 rfl rfl
        try dsimp only at e145
        have d0 := hD 0 (by decide)
        have n3 := hE 3 (by decide)
        have n4 := hE 4 (by decide)
        clear hk hD hE
        obtain ⟨B0, e0, hB0, hb0⟩ := hP.s0 d0
        have hka := HAW.out.ka.keep hP.mod
        have hl : rows.flatten.length = n5 * 6 := by rw [hka.rws.flat, hka.cnt]
        refine opn_append wx rfl (.tmp 145) (.tmp 146) 24 rfl W.heap.size 26 i0 _ 6 104 Tryd.underlying24 hi hz0 hz1 hz2 rfl (by decide) (h 0) 0 [] ((Act.eval_tmp _ _).trans e145) (by rw [e0]; exact own_none (hb0 hS) hB0) A5 n5 c5 rows.flatten ((Act.eval_tmp _ _).trans e146) hl
          (fun hp => ?_) hka.rws.one (by have := HAW.out.kn; omega) (by have := HAW.out.kn; unfold maxLen; omega) hP.mod.size fun A' c' w' h3 h4 h5 => hK _ _ (hP.w1 d0 hS n3 n4 rfl h4 ?_)
        · obtain ⟨ad5, ea, _, _, hcells⟩ := hka.rd (by rw [hl]; omega)
          exact ⟨ad5, ea, hcells⟩
        · simpa using h3
      apply And.intro
      · apply obm_quiet
        case hg => rfl
        case hop =>
          intro ax wx h S hD hE hP hk K hK
          have e2 := hk.see 2 rfl rfl
          have n2 := hE 2 (by decide)
          have n3 := hE 3 (by decide)
          have n4 := hE 4 (by decide)
          clear hk hD hE
          obtain ⟨k0, k1, k2, k3, k4, k5⟩ := code_boxed (HFS.out _ hP.mod)
          go_wp2_with fail
          all_goals first | exact hP | rfl
        case hst => exact fun h h' e => rfl
      refine And.intro (obm_writes rfl ?op) ?_
      case op =>
        intro ax wx h S hD hE hS hP hk K hK
        have e148 := hk.see 148 rfl rfl
        have n3 := hE 3 (by decide)
        have n4 := hE 4 (by decide)
        clear hk hD hE
        dsimp only at e148
        have HP := Lib.hid hP
        clear hP
        go_wp2_with fail
        exact HP.out.w2 n3 n4
      refine And.intro (obm_writes rfl ?op) ?_
      case op =>
        intro ax wx h S hD hE hS hP hk K hK
        have e147 := hk.see 147 rfl rfl
        have e149 := hk.see 149 rfl rfl
        try dsimp only at e147 e149
        have d0 := hD 0 (by decide)
        have d1 := hD 1 (by decide)
        have d2 := hD 2 (by decide)
        have n4 := hE 4 (by decide)
        clear hk hD hE
        obtain ⟨B2, e2, hb2⟩ := hP.s2 d2
        have hown := hP.s1 d1 hS
        rw [e2] at e149
        refine opn_append wx rfl (.tmp 147) (.tmp 149) 24 rfl W.heap.size 26 i0 _ 6 104 Tryd.underlying24 hi hz0 hz1 hz2 rfl (by decide) (h 1) n5 rows.flatten ((Act.eval_tmp _ _).trans e147) hown (some ⟨B2, 0, none⟩) 1 1 (codeArr c v).toList ((Act.eval_tmp _ _).trans e149) rfl
          (fun _ => ⟨_, rfl, fun j u hu => ?_⟩) (by intro u hu; simp only [codeArr, List.mem_cons, List.not_mem_nil, or_false] at hu; rcases hu with rfl | rfl | rfl | rfl | rfl | rfl <;> rfl) (by have := HAW.out.kn; omega) (by have := HAW.out.kn; unfold maxLen; omega) hP.mod.size fun A' c' w' h3 h4 h5 => hK _ _ (hP.w3 d1 hS n4 h4 ?_)
        · rw [show (⟨B2, 0, none⟩ : Addr).add j = ⟨B2, j, none⟩ by unfold Addr.add; split <;> simp_all, (hb2 hS).cell j]
          simpa using hu
        · rw [List.flatten_append]
          simpa using h3
      refine And.intro (obm_writes rfl ?op) ?_
      case op =>
        intro ax wx h S hD hE hS hP hk K hK
        have e144 := hk.see 144 rfl rfl
        have e150 := hk.see 150 rfl rfl
        try dsimp only at e150
        have d0 := hD 0 (by decide)
        have d1 := hD 1 (by decide)
        have d2 := hD 2 (by decide)
        have d3 := hD 3 (by decide)
        clear hk hD hE
        have hk7 := HAW.out.keep hP.mod
        have hrows : RowsC wx (ar ++ [c]) (rows ++ [(codeArr c v).toList]) := hk7.ka.rws.snoc hk7.kc rfl
        have hown := hP.s3 d3
        have hnl : n5 + 1 = (ar ++ [c]).length := by rw [List.length_append, ← hk7.ka.cnt]; rfl
        rw [hnl] at hown
        obtain ⟨A9, c9, e2, hA9⟩ := AroF.of_own hown hrows
        rw [← hnl] at e2 hA9
        rw [e2] at e150
        have HCL := Lib.hid (HCALL.out _ hP.mod A9 c9 hA9)
        have HP := Lib.hid hP
        clear hP hk7 hrows hown hnl e2 hA9
        go_wp2_with fail
        refine HCL.out.mono ?_
        rintro e w' ⟨r, rfl, hr, hm⟩
        exact hK _ _ (HP.out.w4 d3 d1 hr hm)
      apply And.intro
      · apply obm_quiet
        case hg => rfl
        case hop =>
          intro ax wx h S hD hE hP hk K hK
          have e151 := hk.see 151 rfl rfl
          try dsimp only at e151
          have d0 := hD 0 (by decide)
          have d1 := hD 1 (by decide)
          have d2 := hD 2 (by decide)
          have d3 := hD 3 (by decide)
          have d4 := hD 4 (by decide)
          clear hk hD hE
          rw [(hP.s4 d4).1] at e151
          go_wp2_with fail
          all_goals first | exact hP | rfl
        case hst => exact fun h h' e => by first | rfl | simp only [e 0 (by decide)] | simp only [e 1 (by decide)] | simp only [e 2 (by decide)] | simp only [e 3 (by decide)] | simp only [e 4 (by decide)] | simp only [e 0 (by decide), e 1 (by decide), e 2 (by decide), e 3 (by decide), e 4 (by decide)]
      exact trivial
    intro w3 a3 h S hall hP HF
    obtain ⟨_, hmy⟩ := hP.s4 (hall 4 (by decide))
    have HMY2 := Lib.hid hmy
    have HM3 := Lib.hid (HMW.out _ hP.mod)
    have HF2 := HF.keep [1, 2, 11, 152]
    simp only [pick, look, laid5] at HF2
    clear HF hP hall hmy HIN HFS HMW HW HCALL HAW HA4
    have HF := HF2
    clear HF2
    rcases hr : bOf (h 4) with _ | _
    · rw [hr] at HF
      refine sl_then (wp_cond_true (HF.at 152 rfl) (wp_seq (wp_region_lit ?_)))
      refine sl_const HF rfl rfl (.inr rfl) (by decide) ?_; clear HF; intro _ HF
      have HF2 := HF.keep [4]
      simp only [pick, look] at HF2
      exact sl_nil (wp_ret (HBAD.out _ _ HF2 HM3.out))
    · rw [hr] at HF
      have HMM := Lib.hid (HMY2.out hr)
      refine sl_then (wp_cond_false (HF.at 152 rfl) (wp_skip ?_))
      dsimp only [Exit.then, Exit.inBlock]
      refine wp_region_lit ?_
      refine sl_move HF rfl rfl (.inl rfl) (by decide) rfl ?_; clear HF; intro _ HF
      refine sl_op HF rfl rfl (by decide) ?_; intro K hK; have e138 := HF.see 138 rfl; go_wp2_with fail; clear e138 HF; intro _ HF
      refine sl_move HF rfl rfl (.inr rfl) (by decide) rfl ?_; clear HF; intro _ HF
      have HF2 := HF.keep [1, 2, 11]
      simp only [pick, look] at HF2
      refine wpList_nil ?_
      show _ ∧ _
      refine ⟨⟨i + 1, by exact_mod_cast HF2, by rw [HNN.out]; omega, fun j l hj hl => ?_, HM3.out⟩, ?_⟩
      · rcases Nat.lt_or_ge j i with hji | hji
        · exact HAG.out j l hji hl
        · obtain rfl : j = i := by omega
          rw [HBI.out] at hl
          cases hl
          exact HMM.out
      · have e6 := HF2.see 11 rfl
        try simp only [Act.eval_tmp]
        rw [e6, HMU.out]
        simp only [intOf]
        omega
  · have hd : decide ((i : Int) < (n : Int)) = false := by simp; omega
    refine wp_seq (wp_seq (wp_region_lit ?_))
    refine sl_move HF rfl rfl (.inl rfl) (by decide) rfl ?_; clear HF; intro _ HF
    refine sl_op HF rfl rfl (by decide) ?_; intro K hK; have e2 := HF.see 2 rfl; go_wp2_with fail; clear e2 HF; intro _ HF
    refine sl_op HF rfl rfl (by decide) ?_; intro K hK; have e134 := HF.see 134 rfl; go_wp2_with fail; clear e134 HF; intro _ HF
    refine sl_op HF rfl rfl (by decide) ?_; intro K hK; have e135 := HF.see 135 rfl; go_wp2_with fail; clear e135 HF; intro _ HF
    refine sl_op HF rfl rfl (by decide) ?_; intro K hK; have e133 := HF.see 133 rfl; have e136 := HF.see 136 rfl; go_wp2_with fail; clear e133 e136 HF; intro _ HF
    refine sl_nil (wp_cond_false (HF.at 137 rfl) (wp_exit ?_))
    dsimp only [Exit.then]
    refine sl_exit ?_
    have HF2 := HF.keep [1, 2]
    simp only [pick, look] at HF2
    refine HOK.out _ _ HF2 (fun x hx => ?_) HM.out
    obtain ⟨j, hj⟩ := List.getElem?_of_mem hx
    exact HAG.out j x (by have := (List.getElem?_eq_some_iff.1 hj).1; rw [HNN.out] at this; omega) hj
end Go.Proofs.YtefloadjolpgbaaDoor
