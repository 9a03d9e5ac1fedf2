/- The law ScanJoins, walked. -/
import Derived.Test.YtpjpmlhnhcmacaaDoorScW
import Derived.Laws.StructEq
import Derived.Outline
import Derived.WalkMore
namespace Go.Proofs.YtpjpmlhnhcmacaaDoor
open Go.RowKit

noncomputable def joinBody : Code := (Tryd.f3.body).getD .skip

/-- All's result as three values. -/
def AllV (B : Nat) (r : Except (Nat × Nat) (List (Tok × Nat))) (v : Value) (c p : Nat) (w' : World) : Prop := match r with
  | .error (c', p') => v = .slice none 0 0 ∧ c = c' ∧ p = p'
  | .ok ts => c = 0 ∧ p = 0 ∧ w'.ownsRow B 28 4 v ts.length (tkCells ts)
theorem AllIs.vals {B : Nat} {r : Except (Nat × Nat) (List (Tok × Nat))} {e : Ending} {w' : World} (h : AllIs B r e w') : ∃ v c p, e = .returned (.tuple #[v, .int .i64 (c : Nat), .int .i64 (p : Nat)]) ∧ AllV B r v c p w' := by
  unfold AllIs at h
  rcases r with ⟨c, p⟩ | ts
  · exact ⟨_, c, p, h, rfl, rfl, rfl⟩
  · obtain ⟨v, h1, h2⟩ := h
    exact ⟨v, 0, 0, h1, rfl, rfl, h2⟩

theorem AllV.keep {B : Nat} {r : Except (Nat × Nat) (List (Tok × Nat))} {v : Value} {c p : Nat} {w w' : World} (h : AllV B r v c p w) (hm : Mod Nil w w') : AllV B r v c p w' := by
  unfold AllV at h ⊢
  rcases r with ⟨c', p'⟩ | ts
  · exact h
  · exact ⟨h.1, h.2.1, own_keep h.2.2 hm fun _ _ h => h⟩

/-- A region with one call in it. -/
structure PhCall (W : World) (v : Value) (k : Nat) (h : Hist) (w : World) : Prop where
  s0 : k = 0 → w = W
  s1 : k = 1 → Mod Nil W w ∧ h 0 = v

def JoinI (w0 : World) (A B : List UInt8) (ld xd md : Addr) (nl nx nm cl cx cm : Nat) (a : Act) (w : World) : Prop :=
  ∃ k : Nat, k ≤ nm ∧ Sl 119 [(0, .string (str A)), (1, .string (str B)), (5, .slice (some ld) nl cl), (8, .slice (some md) nm cm), (11, .slice (some xd) nx cx), (14, .int .i64 k)] a ∧ Mod Nil w0 w

def shiftT (c : Nat) (ts : List (Tok × Nat)) : List (Tok × Nat) := ts.map fun p => (p.1, p.2 + c)

set_option maxHeartbeats 1600000 in
set_option maxRecDepth 100000 in
/-- A round of the law's loop. -/
theorem join_round {Q : Exit → Act → World → Prop} {a : Act} {w : World} {A B : List UInt8} {ld xd md : Addr} {nl nx nm cl cx cm k : Nat} {p : Tok × Nat}
    (HF : Sl 119 [(0, .string (str A)), (1, .string (str B)), (5, .slice (some ld) (nl + 1) cl), (8, .slice (some md) nm cm), (11, .slice (some xd) nx cx), (14, .int .i64 k)] a)
    (hlt : k < nm) (hnx : nl + nm ≤ nx) (hbig : nx ≤ 100000) (hA : A.length ≤ 1000) (hpa : p.2 ≤ 1000)
    (hm0 : w.cell? (md.add (k * 4)) = some (.int .i64 p.1.kind)) (hm1 : w.cell? ⟨(md.add (k * 4)).block, (md.add (k * 4)).off + 1, none⟩ = some (.string (str p.1.text))) (hm2 : w.cell? ⟨(md.add (k * 4)).block, (md.add (k * 4)).off + 2, none⟩ = some (.int .i64 p.1.n)) (hm3 : w.cell? ⟨(md.add (k * 4)).block, (md.add (k * 4)).off + 3, none⟩ = some (.int .i64 p.2))
    (hxb : xd.block < w.heap.size) (hx0 : w.cell? (xd.add ((nl + k) * 4)) = some (.int .i64 p.1.kind)) (hx1 : w.cell? ⟨(xd.add ((nl + k) * 4)).block, (xd.add ((nl + k) * 4)).off + 1, none⟩ = some (.string (str p.1.text))) (hx2 : w.cell? ⟨(xd.add ((nl + k) * 4)).block, (xd.add ((nl + k) * 4)).off + 2, none⟩ = some (.int .i64 p.1.n)) (hx3 : w.cell? ⟨(xd.add ((nl + k) * 4)).block, (xd.add ((nl + k) * 4)).off + 3, none⟩ = some (.int .i64 (p.2 + (A.length + 1) : Nat)))
    (hQ : ∀ a' w', Sl 119 [(0, .string (str A)), (1, .string (str B)), (5, .slice (some ld) (nl + 1) cl), (8, .slice (some md) nm cm), (11, .slice (some xd) nx cx), (14, .int .i64 k)] a' → Mod Nil w w' → Q .normal a' w') :
    (part [1, 1, 1, 1, 1, 1, 1, 1, 0, 1, 0, 0, 1, 0, 0] joinBody).wp Tryd.prog Q a w := by
  have hst28 : Tryd.prog.stoodInHeld 28 = false := by kernel_rfl
  have heg28 : Tryd.prog.eqGuardType Tryd.prog.depth 28 = false := by kernel_rfl
  have hsz := str_size A
  obtain ⟨⟨pk, pt, pn⟩, pa⟩ := p
  simp only at hm0 hm1 hm2 hm3 hx0 hx1 hx2 hx3 hpa
  have HQ := Lib.hid hQ
  clear hQ
  conv => arg 2; whnf
  refine wp_seq (wp_region_lit ?_)
  refine sl_move HF rfl rfl (.inl rfl) (by decide) rfl ?_; clear HF; intro _ HF
  refine sl_move HF rfl rfl (.inl rfl) (by decide) rfl ?_; clear HF; intro _ HF
  refine sl_op HF rfl rfl (by decide) ?_; intro K hK; have e87 := HF.see 87 rfl; have e88 := HF.see 88 rfl; go_wp2_with fail; clear e87 e88 HF; intro _ HF
  refine sl_op HF rfl rfl (by decide) ?_; intro K hK; have e89 := HF.see 89 rfl; go_wp2_with fail; clear e89 HF; intro _ HF
  refine sl_op HF rfl rfl (by decide) ?_; intro K hK; go_wp2_with fail; clear HF; intro _ HF
  refine sl_op0 HF rfl rfl ?_; intro K hK; have e15 := HF.see 15 rfl; have e90 := HF.see 90 rfl; go_wp2_with fail; clear e15 e90 HF; intro _ HF
  refine sl_nil (wp_seq (wp_region_lit ?_))
  refine sl_op HF rfl rfl (by decide) ?_; intro K hK; have e15 := HF.see 15 rfl; go_wp2_with fail; clear e15 HF; intro _ HF
  refine sl_op HF rfl rfl (by decide) ?_; intro K hK; have e91 := HF.see 91 rfl; go_wp2_with fail; clear e91 HF; intro _ HF
  refine sl_move HF rfl rfl (.inl rfl) (by decide) rfl ?_; clear HF; intro _ HF
  refine sl_op HF rfl rfl (by decide) ?_; intro K hK; have e93 := HF.see 93 rfl; go_wp2_with fail; clear e93 HF; intro _ HF
  refine sl_op HF rfl rfl (by decide) ?_; intro K hK; have e92 := HF.see 92 rfl; have e94 := HF.see 94 rfl; go_wp2_with fail; clear e92 e94 HF; intro _ HF
  refine sl_op HF rfl rfl (by decide) ?_; intro K hK; have e95 := HF.see 95 rfl; go_wp2_with fail; clear e95 HF; intro _ HF
  refine sl_op HF rfl rfl (by decide) ?_; intro K hK; have e15 := HF.see 15 rfl; go_wp2_with fail; clear e15 HF; intro _ HF
  refine sl_op0 HF rfl rfl ?_; intro K hK; have e97 := HF.see 97 rfl; have e96 := HF.see 96 rfl; go_wp2_with fail; clear e97 e96 HF; intro _ HF
  refine sl_nil (wp_seq ?_)
  have hmo := (Mod.refl Nil w).alloc (.cells #[.int .i64 pk, .string (str pt), .int .i64 pn, .int .i64 ((pa : Int) + A.length + 1)] 28)
  have hb := Blk.new w 28 #[.int .i64 pk, .string (str pt), .int .i64 pn, .int .i64 ((pa : Int) + A.length + 1)]
  generalize hW : World.alloc w (.cells #[.int .i64 pk, .string (str pt), .int .i64 pn, .int .i64 ((pa : Int) + A.length + 1)] 28) = W at hmo hb ⊢
  have hxx : (xd.add ((nl + k) * 4)).block < w.heap.size := by rw [block_of_add]; exact hxb
  have hc0 := (hmo.cell (p := xd.add ((nl + k) * 4)) hxx id).trans hx0
  have hc1 := (hmo.cell (p := ⟨(xd.add ((nl + k) * 4)).block, (xd.add ((nl + k) * 4)).off + 1, none⟩) hxx id).trans hx1
  have hc2 := (hmo.cell (p := ⟨(xd.add ((nl + k) * 4)).block, (xd.add ((nl + k) * 4)).off + 2, none⟩) hxx id).trans hx2
  have hc3 := (hmo.cell (p := ⟨(xd.add ((nl + k) * 4)).block, (xd.add ((nl + k) * 4)).off + 3, none⟩) hxx id).trans hx3
  rw [show ((pa + (A.length + 1) : Nat) : Int) = (pa : Int) + A.length + 1 by omega] at hc3
  have hd0 := hb.cell 0
  have hd1 := hb.cell 1
  have hd2 := hb.cell 2
  have hd3 := hb.cell 3
  have HMO := Lib.hid hmo
  have hg : w.heap.size < W.heap.size := hb.lt
  clear hmo hb hx0 hx1 hx2 hx3 hm0 hm1 hm2 hm3 hW
  generalize w.heap.size = g at HF hd0 hd1 hd2 hd3 hg hxb hxx
  apply sl_flow5 (N := 0) [some 98, some 99, some 100, some 101, some 102, some 103, some 104, some 105, some 106, some 107] [.quiet 0 0, .quiet 0 0, .quiet 0 0, .quiet 0 0, .quiet 0 0, .quiet 0 0, .quiet 0 0, .quiet 0 0, .quiet 0 0, .quiet 0 0] (PhEq W.drew) [_, _, _, _, _, _, _, _, _, _] HF
  case hm => kernel_rfl
  case hok => kernel_rfl
  case hfl => rfl
  case h0 => exact (fun _ => ⟨rfl⟩)
  case hobs =>
    apply And.intro
    · apply ob_quiet
      case hg => rfl
      case hop =>
        intro ax wx h k hlo hhi hP hk K hK
        have e11 := hk.see 11 rfl rfl
        clear hk
        go_wp2_with fail
        all_goals first | exact hP | rfl
      case hst => exact fun h h' e => rfl
    apply And.intro
    · apply ob_quiet
      case hg => rfl
      case hop =>
        intro ax wx h k hlo hhi hP hk K hK
        have e5 := hk.see 5 rfl rfl
        clear hk
        go_wp2_with fail
        all_goals first | exact hP | rfl
      case hst => exact fun h h' e => rfl
    apply And.intro
    · apply ob_quiet
      case hg => rfl
      case hop =>
        intro ax wx h k hlo hhi hP hk K hK
        have e99 := hk.see 99 rfl rfl
        clear hk
        obtain rfl := hP.eq
        go_wp2_with fail
        all_goals first | exact hP | rfl
      case hst => exact fun h h' e => rfl
    apply And.intro
    · apply ob_quiet
      case hg => rfl
      case hop =>
        intro ax wx h k hlo hhi hP hk K hK
        have e100 := hk.see 100 rfl rfl
        clear hk
        obtain rfl := hP.eq
        go_wp2_with fail
        all_goals first | exact hP | rfl
      case hst => exact fun h h' e => rfl
    apply And.intro
    · apply ob_quiet
      case hg => rfl
      case hop =>
        intro ax wx h k hlo hhi hP hk K hK
        have e14 := hk.see 14 rfl rfl
        clear hk
        go_wp2_with fail
        all_goals first | exact hP | rfl
      case hst => exact fun h h' e => rfl
    apply And.intro
    · apply ob_quiet
      case hg => rfl
      case hop =>
        intro ax wx h k hlo hhi hP hk K hK
        have e101 := hk.see 101 rfl rfl
        have e102 := hk.see 102 rfl rfl
        clear hk
        obtain rfl := hP.eq
        go_wp2_with fail
        all_goals first | exact hP | rfl
      case hst => exact fun h h' e => rfl
    apply And.intro
    · apply ob_quiet
      case hg => rfl
      case hop =>
        intro ax wx h k hlo hhi hP hk K hK
        have e98 := hk.see 98 rfl rfl
        have e103 := hk.see 103 rfl rfl
        clear hk
        obtain rfl := hP.eq
        go_wp2_with fail
        all_goals first | exact hP | rfl
      case hst => exact fun h h' e => rfl
    apply And.intro
    · apply ob_quiet
      case hg => rfl
      case hop =>
        intro ax wx h k hlo hhi hP hk K hK
        have e104 := hk.see 104 rfl rfl
        clear hk
        obtain rfl := hP.eq
        go_wp2_with fail
        all_goals first | exact hP | rfl
      case hst => exact fun h h' e => rfl
    apply And.intro
    · apply ob_quiet
      case hg => rfl
      case hop =>
        intro ax wx h k hlo hhi hP hk K hK
        have e15 := hk.see 15 rfl rfl
        clear hk
        obtain rfl := hP.eq
        go_wp2_with fail
        all_goals first | exact hP | rfl
      case hst => exact fun h h' e => rfl
    apply And.intro
    · apply ob_quiet
      case hg => rfl
      case hop =>
        intro ax wx h k hlo hhi hP hk K hK
        have e105 := hk.see 105 rfl rfl
        have e106 := hk.see 106 rfl rfl
        clear hk
        obtain rfl := hP.eq
        go_wp2_with fail
        all_goals first | exact hP | rfl
      case hst => exact fun h h' e => rfl
    exact trivial
  intro w' a' h hP HF
  obtain rfl := hP.eq
  refine sl_then ?_
  refine wp_cond_false (HF.at 107 rfl) (wp_skip ?_)
  exact HQ.out _ _ (HF.keep [0, 1, 5, 8, 11, 14]) HMO.out.drew

theorem allR_len {l : List UInt8} {c p : Nat} (hl : l.length ≤ 4000) (h : allR l = .error (c, p)) : c = 40 ∧ allL l = .error p := by
  unfold allR at h
  rw [if_neg (by omega)] at h
  rcases ha : allL l with e | ts
  · rw [ha] at h
    injection h with h
    injection h with h1 h2
    exact ⟨h1.symm, by rw [h2]⟩
  · rw [ha] at h
    cases h
theorem allR_ok {l : List UInt8} {ts : List (Tok × Nat)} (h : allR l = .ok ts) : allL l = .ok ts := by
  unfold allR at h
  split at h
  · cases h
  · rcases ha : allL l with e | us
    · rw [ha] at h
      cases h
    · rw [ha] at h
      injection h with h
      rw [h]
/-- The tokens of the joined text. -/
theorem allR_join {A B : List UInt8} (hA : A.length ≤ 300) (hB : B.length ≤ 300) {ts : List (Tok × Nat)} (h : allR A = .ok ts) :
    ∃ ts0, ts = ts0 ++ [(⟨0, [], 0⟩, A.length)] ∧ allR (A ++ 10 :: B) = match allR B with
      | .ok us => .ok (ts0 ++ shiftT (A.length + 1) us)
      | .error (c, p) => .error (c, p + (A.length + 1)) := by
  obtain ⟨ts0, h1, h2⟩ := scanW_join B A.length A 0 (Nat.le_refl _) (allR_ok h)
  rw [Nat.zero_add] at h1 h2
  refine ⟨ts0, h1, ?_⟩
  have h3 : allL (A ++ 10 :: B) = pre ts0 (shiftE (A.length + 1) (allL B)) := by
    have h4 := scanW_shift (A.length + 1) B.length B 0 (Nat.le_refl _)
    rw [Nat.zero_add] at h4
    rw [h4] at h2
    exact h2
  unfold allR
  rw [if_neg (by simp; omega), if_neg (by omega), h3]
  rcases allL B with e | us
  · rfl
  · rfl
theorem sameL_refl (pl : Bool) (ts : List (Tok × Nat)) : sameL pl ts ts = true := by
  unfold sameL
  simp only [decide_true, Bool.true_and, List.all_eq_true]
  intro i _
  rcases ts[i]? with _ | p
  · rfl
  · simp [tokEq]
theorem scan_len : ∀ (n : Nat) (d : List UInt8) (a : Nat), d.length ≤ n → ∀ {ts : List (Tok × Nat)}, scanW d a = .ok ts → ts.length ≤ d.length + 1 ∧ ∀ p ∈ ts, p.2 ≤ a + d.length
  | n, d, a, hl, ts, h => by
    rw [scanW_eq] at h
    rcases hn : nxtL d with ⟨m, _ | ⟨t, k⟩⟩
    · rw [hn] at h
      cases h
    · rw [hn] at h
      simp only at h
      have he := nxtL_end hn
      split at h
      · injection h with h
        rw [← h]
        refine ⟨by simp, fun p hp => ?_⟩
        simp at hp
        rw [hp]
        show a + m ≤ _
        omega
      · rename_i hk
        have hk1 := he.2.resolve_left hk
        have hd : (d.drop (m + k)).length = d.length - (m + k) := List.length_drop
        cases n with
        | zero => omega
        | succ n =>
          rcases hx : scanW (d.drop (m + k)) (a + m + k) with e | us
          · rw [hx] at h
            cases h
          · rw [hx] at h
            injection h with h
            obtain ⟨h1, h2⟩ := scan_len n (d.drop (m + k)) (a + m + k) (by omega) hx
            rw [← h]
            refine ⟨by simp; omega, fun p hp => ?_⟩
            rcases List.mem_cons.1 hp with rfl | hp
            · show a + m ≤ _
              omega
            · have := h2 p hp
              omega
theorem allR_bd {l : List UInt8} {ts : List (Tok × Nat)} (h : allR l = .ok ts) : ts.length ≤ l.length + 1 ∧ ∀ p ∈ ts, p.2 ≤ l.length := by
  have := scan_len l.length l 0 (Nat.le_refl _) (allR_ok h)
  rw [Nat.zero_add] at this
  exact this

theorem own_rd {w : World} {B : Nat} {v : Value} {n : Nat} {xs : List Value} {e : TypeId} {size : Nat} (h : w.ownsRow B e size v n xs) (h0 : 0 < n) : ∃ ad c, v = .slice (some ad) n c ∧ n ≤ c ∧ ad.block < w.heap.size ∧ Rd All w (some ad) xs := by
  obtain ⟨_, _, hv2, hnc, _⟩ := own_slice h
  obtain ⟨g, cap, hv, hb, hlt⟩ := h.form h0
  subst hv
  injection hv2 with _ _ hc
  exact ⟨⟨g, 0, none⟩, cap, rfl, by rw [hc]; exact hnc, hlt, fun _ => ⟨_, rfl, trivial, hlt, h.cells (g := g) rfl⟩⟩

theorem allR_some {l : List UInt8} {ts : List (Tok × Nat)} (h : allR l = .ok ts) : 0 < ts.length := by
  obtain ⟨ts0, h1, _⟩ := scanW_join [] l.length l 0 (Nat.le_refl _) (allR_ok h)
  rw [h1]
  simp
theorem tkCells_app (a b : List (Tok × Nat)) : tkCells (a ++ b) = tkCells a ++ tkCells b := by simp [tkCells]
theorem tkCells_take (a b : List (Tok × Nat)) : (tkCells (a ++ b)).take (a.length * 4) = tkCells a := by
  rw [tkCells_app, ← tkCells_length a]
  simp

set_option maxHeartbeats 3200000 in
set_option maxRecDepth 100000 in
theorem join_rest {a : Act} {w0 w : World} {A B : List UInt8} {v1 v2 v3 : Value} {c1 c2 c3 p1 p2 p3 b1 b2 b3 : Nat} (R : Ending → World → Prop)
    (HF : Sl 119 [(0, .string (str A)), (1, .string (str B)), (5, v1), (6, .int .i64 c1), (8, v2), (9, .int .i64 c2), (11, v3), (12, .int .i64 c3), (13, .int .i64 p3)] a)
    (hA : A.length ≤ 300) (hB : B.length ≤ 300) (hv1 : AllV b1 (allR A) v1 c1 p1 w) (hv2 : AllV b2 (allR B) v2 c2 p2 w) (hv3 : AllV b3 (allR (A ++ 10 :: B)) v3 c3 p3 w) (hm : Mod Nil w0 w)
    (hR : ∀ w', Mod Nil w0 w' → R (.returned (.bool true)) w') :
    (part [1, 1, 1, 1, 1] joinBody).wp Tryd.prog (bodyPost Tryd.prog Tryd.f3 R) a w := by
  have hszA := str_size A
  have HR := Lib.hid hR
  have HM := Lib.hid hm
  clear hR hm
  conv => arg 2; whnf
  refine wp_seq (wp_seq (wp_region_lit ?_))
  rcases hra : allR A with ⟨ca, pa⟩ | ts
  · rw [hra] at hv1
    obtain ⟨_, rfl, _⟩ := hv1
    obtain ⟨rfl, _⟩ := allR_len (by omega) hra
    refine sl_move HF rfl rfl (.inl rfl) (by decide) rfl ?_; clear HF; intro _ HF
    refine sl_op HF rfl rfl (by decide) ?_; intro K hK; have e50 := HF.see 50 rfl; go_wp2_with fail; clear e50 HF; intro _ HF
    refine sl_nil (wp_cond_true (HF.at 51 rfl) (wp_seq (wp_region_lit ?_)))
    refine sl_const HF rfl rfl (.inr rfl) (by decide) ?_; clear HF; intro _ HF
    refine sl_nil (wp_ret ?_)
    dsimp only [Exit.then]
    exact sl_ret1 HF rfl rfl (HR.out _ HM.out)
  · obtain ⟨ts0, hts, hjoin⟩ := allR_join hA hB hra
    rw [hjoin] at hv3
    rw [hra] at hv1
    obtain ⟨rfl, _, hown1⟩ := hv1
    have HO1 := Lib.hid hown1
    have HTS := Lib.hid hts
    clear hown1 hts hjoin
    refine sl_move HF rfl rfl (.inl rfl) (by decide) rfl ?_; clear HF; intro _ HF
    refine sl_op HF rfl rfl (by decide) ?_; intro K hK; have e50 := HF.see 50 rfl; go_wp2_with fail; clear e50 HF; intro _ HF
    refine sl_nil (wp_cond_false (HF.at 51 rfl) (wp_skip (sl_then ?_)))
    refine wp_seq (wp_seq (wp_region_lit ?_))
    rcases hrb : allR B with ⟨cb, pb⟩ | us
    · rw [hrb] at hv2 hv3
      obtain ⟨_, rfl, _⟩ := hv2
      obtain ⟨rfl, hpb⟩ := allR_len (by omega) hrb
      obtain ⟨_, rfl, rfl⟩ := hv3
      refine sl_move HF rfl rfl (.inl rfl) (by decide) rfl ?_; clear HF; intro _ HF
      refine sl_op HF rfl rfl (by decide) ?_; intro K hK; have e52 := HF.see 52 rfl; go_wp2_with fail; clear e52 HF; intro _ HF
      refine sl_nil (wp_cond_true (HF.at 53 rfl) (wp_seq (wp_region_lit ?_)))
      have hgt : decide ((A.length : Int) < (pb : Int) + ((A.length : Int) + 1)) = true := by simp; omega
      refine sl_move HF rfl rfl (.inl rfl) (by decide) rfl ?_; clear HF; intro _ HF
      refine sl_move HF rfl rfl (.inl rfl) (by decide) rfl ?_; clear HF; intro _ HF
      refine sl_op HF rfl rfl (by decide) ?_; intro K hK; have e54 := HF.see 54 rfl; have e55 := HF.see 55 rfl; go_wp2_with fail; clear e54 e55 HF; intro _ HF
      refine sl_move HF rfl rfl (.inl rfl) (by decide) rfl ?_; clear HF; intro _ HF
      refine sl_want HF rfl rfl rfl rfl (by decide) ?_; intro K hK; have e13 := HF.see 13 rfl; go_wp2_with fail; clear e13 HF; intro _ HF
      refine sl_want HF rfl rfl rfl rfl (by decide) ?_; intro K hK; have e0 := HF.see 0 rfl; go_wp2_with fail; clear e0 HF; intro _ HF
      refine sl_want HF rfl rfl rfl rfl (by decide) ?_; intro K hK; have e59 := HF.see 59 rfl; go_wp2_with fail; clear e59 HF; intro _ HF
      refine sl_want HF rfl rfl rfl rfl (by decide) ?_; intro K hK; have e58 := HF.see 58 rfl; have e60 := HF.see 60 rfl; go_wp2_with fail; clear e58 e60 HF; intro _ HF
      refine sl_op HF rfl rfl (by decide) ?_; intro K hK; have e57 := HF.see 57 rfl; have e61 := HF.see 61 rfl; go_wp2_with fail; clear e57 e61 HF; intro _ HF
      refine sl_move HF rfl rfl (.inr rfl) (by decide) rfl ?_; clear HF; intro _ HF
      refine sl_nil (wp_ret ?_)
      dsimp only [Exit.then]
      exact sl_ret1 HF rfl rfl (HR.out _ HM.out)
    · have hus := allR_some hrb
      rw [hrb] at hv2 hv3
      obtain ⟨rfl, _, hown2⟩ := hv2
      obtain ⟨rfl, _, hown3⟩ := hv3
      have hb1 := allR_bd hra
      have hb2 := allR_bd hrb
      have hown1 := HO1.out
      rw [HTS.out] at hown1
      have hl1 : (ts0 ++ [((⟨0, [], 0⟩ : Tok), A.length)]).length = ts0.length + 1 := by simp
      rw [hl1] at hown1
      have hl3 : (ts0 ++ shiftT (A.length + 1) us).length = ts0.length + us.length := by simp [shiftT]
      rw [hl3] at hown3
      have hnl : ts0.length ≤ 300 := by have := hb1.1; rw [HTS.out, hl1] at this; omega
      have hnm : us.length ≤ 301 := by have := hb2.1; omega
      obtain ⟨ld, cl, rfl, hlc, hlb, hlr⟩ := own_rd hown1 (by omega)
      obtain ⟨md, cm, rfl, hmc, hmb, hmr⟩ := own_rd hown2 hus
      obtain ⟨xd, cx, rfl, hxc, hxb, hxr⟩ := own_rd hown3 (by omega)
      obtain ⟨nl, hnl0⟩ : ∃ nl, nl = ts0.length := ⟨_, rfl⟩
      obtain ⟨nm, hnm0⟩ : ∃ nm, nm = us.length := ⟨_, rfl⟩
      rw [← hnl0] at HF hnl hlc hxc
      rw [← hnm0] at HF hnm hus hxc
      have HLR := Lib.hid hlr
      have HMR := Lib.hid hmr
      have HXR := Lib.hid hxr
      have HB2 := Lib.hid hb2.2
      have HNL := Lib.hid hnl0
      have HNM := Lib.hid hnm0
      clear hown1 hown2 hown3 hb1 hb2 hl1 hl3 hlr hmr hxr HO1 hnl0 hnm0
      refine sl_move HF rfl rfl (.inl rfl) (by decide) rfl ?_; clear HF; intro _ HF
      refine sl_op HF rfl rfl (by decide) ?_; intro K hK; have e52 := HF.see 52 rfl; go_wp2_with fail; clear e52 HF; intro _ HF
      refine sl_nil (wp_cond_false (HF.at 53 rfl) (wp_skip (sl_then ?_)))
      refine wp_seq (wp_seq (wp_region_lit ?_))
      have hz : ((nl + 1 : Nat) : Int) = (nl : Int) + 1 := by omega
      have hz2 : ((nl + nm : Nat) : Int) = (nl : Int) + nm := by omega
      have hz3 : ((nl : Int) + 1 == 0) = false := by simp; omega
      refine sl_move HF rfl rfl (.inl rfl) (by decide) rfl ?_; clear HF; intro _ HF
      refine sl_op HF rfl rfl (by decide) ?_; intro K hK; have e63 := HF.see 63 rfl; go_wp2_with fail; clear e63 HF; intro _ HF
      refine sl_op HF rfl rfl (by decide) ?_; intro K hK; have e64 := HF.see 64 rfl; go_wp2_with fail; clear e64 HF; intro _ HF
      refine sl_move HF rfl rfl (.inl rfl) (by decide) rfl ?_; clear HF; intro _ HF
      refine sl_want HF rfl rfl rfl rfl (by decide) ?_; intro K hK; have e12 := HF.see 12 rfl; go_wp2_with fail; clear e12 HF; intro _ HF
      refine sl_want HF rfl rfl rfl rfl (by decide) ?_; intro K hK; have e67 := HF.see 67 rfl; go_wp2_with fail; clear e67 HF; intro _ HF
      refine sl_op HF rfl rfl (by decide) ?_; intro K hK; have e66 := HF.see 66 rfl; have e68 := HF.see 68 rfl; go_wp2_with fail; clear e66 e68 HF; intro _ HF
      refine sl_move HF rfl rfl (.inl rfl) (by decide) rfl ?_; clear HF; intro _ HF
      refine sl_want HF rfl rfl rfl rfl (by decide) ?_; intro K hK; have e11 := HF.see 11 rfl; go_wp2_with fail; clear e11 HF; intro _ HF
      refine sl_want HF rfl rfl rfl rfl (by decide) ?_; intro K hK; have e71 := HF.see 71 rfl; go_wp2_with fail; clear e71 HF; intro _ HF
      refine sl_want HF rfl rfl rfl rfl (by decide) ?_; intro K hK; have e5 := HF.see 5 rfl; go_wp2_with fail; clear e5 HF; intro _ HF
      refine sl_want HF rfl rfl rfl rfl (by decide) ?_; intro K hK; have e73 := HF.see 73 rfl; go_wp2_with fail; clear e73 HF; intro _ HF
      refine sl_want HF rfl rfl rfl rfl (by decide) ?_; intro K hK; have e74 := HF.see 74 rfl; go_wp2_with fail; clear e74 HF; intro _ HF
      refine sl_want HF rfl rfl rfl rfl (by decide) ?_; intro K hK; have e8 := HF.see 8 rfl; go_wp2_with fail; clear e8 HF; intro _ HF
      refine sl_want HF rfl rfl rfl rfl (by decide) ?_; intro K hK; have e76 := HF.see 76 rfl; go_wp2_with fail; clear e76 HF; intro _ HF
      refine sl_want HF rfl rfl rfl rfl (by decide) ?_; intro K hK; have e75 := HF.see 75 rfl; have e77 := HF.see 77 rfl; go_wp2_with fail; clear e75 e77 HF; intro _ HF
      refine sl_want HF rfl rfl rfl rfl (by decide) ?_; intro K hK; have e72 := HF.see 72 rfl; have e78 := HF.see 78 rfl; go_wp2_with fail; clear e72 e78 HF; intro _ HF
      refine sl_op HF rfl rfl (by decide) ?_; intro K hK; have e70 := HF.see 70 rfl; have e79 := HF.see 79 rfl; go_wp2_with fail; clear e70 e79 HF; intro _ HF
      clear hz3
      refine sl_nil (wp_cond_false (HF.at 80 rfl) (wp_skip (sl_then ?_)))
      refine wp_seq (wp_seq (wp_region_lit ?_))
      refine sl_const HF rfl rfl (.inr rfl) (by decide) ?_; clear HF; intro _ HF
      refine sl_nil (wp_block (wp_loop (JoinI w A B ld xd md (nl + 1) (nl + nm) nm cl cx cm) (fun a _ => nm - (intOf (a.eval (.tmp 14))).toNat) ?_ ?_))
      · exact ⟨0, Nat.zero_le _, HF.keep [0, 1, 5, 8, 11, 14], Mod.refl _ _⟩
      · clear HF
        rintro a2 w2 ⟨k, hk, HF, hmod⟩
        have hmu : nm - (intOf (a2.eval (.tmp 14))).toNat = nm - k := by rw [HF.at 14 rfl]; simp [intOf]
        have HMU := Lib.hid hmu
        have HMOD := Lib.hid hmod
        clear hmu hmod
        by_cases hlt : k < nm
        · refine wp_seq (wp_seq (wp_region_lit ?_))
          refine sl_move HF rfl rfl (.inl rfl) (by decide) rfl ?_; clear HF; intro _ HF
          refine sl_move HF rfl rfl (.inl rfl) (by decide) rfl ?_; clear HF; intro _ HF
          refine sl_op HF rfl rfl (by decide) ?_; intro K hK; have e82 := HF.see 82 rfl; go_wp2_with fail; clear e82 HF; intro _ HF
          refine sl_op HF rfl rfl (by decide) ?_; intro K hK; have e81 := HF.see 81 rfl; have e83 := HF.see 83 rfl; go_wp2_with fail; clear e81 e83 HF; intro _ HF
          refine sl_nil (wp_cond_true (HF.at 84 rfl) (wp_skip (sl_then ?_)))
          obtain ⟨p, hp⟩ : ∃ p, us[k]? = some p := ⟨_, List.getElem?_eq_getElem (by rw [← HNM.out]; omega)⟩
          obtain ⟨md', hmd, _, hm0, hm1, hm2, hm3⟩ := (HMR.out.keep0 HMOD.out).tok hp
          injection hmd with hmd
          subst hmd
          have hxp : (ts0 ++ shiftT (A.length + 1) us)[nl + k]? = some (p.1, p.2 + (A.length + 1)) := by
            rw [List.getElem?_append_right (by rw [← HNL.out]; omega), ← HNL.out, Nat.add_sub_cancel_left]
            simp [shiftT, hp]
          obtain ⟨xd', hxd, hxb', hx0, hx1, hx2, hx3⟩ := (HXR.out.keep0 HMOD.out).tok hxp
          injection hxd with hxd
          subst hxd
          have hpa : p.2 ≤ 1000 := by have := HB2.out p (List.mem_of_getElem? hp); omega
          refine wp_seq (wp_block ?_)
          refine join_round (HF.keep [0, 1, 5, 8, 11, 14]) hlt (Nat.le_refl _) (by omega) (by omega) hpa hm0 hm1 hm2 hm3 hxb' hx0 hx1 hx2 hx3 fun a3 w3 HF hm3w => ?_
          have HM3 := Lib.hid (HMOD.out.trans hm3w)
          clear hm0 hm1 hm2 hm3 hx0 hx1 hx2 hx3 hm3w hp hxp
          refine sl_blk (wp_region_lit ?_)
          refine sl_move HF rfl rfl (.inl rfl) (by decide) rfl ?_; clear HF; intro _ HF
          refine sl_op HF rfl rfl (by decide) ?_; intro K hK; have e85 := HF.see 85 rfl; go_wp2_with fail; clear e85 HF; intro _ HF
          refine sl_move HF rfl rfl (.inr rfl) (by decide) rfl ?_; clear HF; intro _ HF
          refine wpList_nil ?_
          show _ ∧ _ < nm - _
          rw [HMU.out]
          refine ⟨⟨k + 1, by omega, ?_, HM3.out⟩, ?_⟩
          · have e : Value.int .i64 ((k : Int) + 1) = .int .i64 ((k + 1 : Nat) : Int) := by simp
            rw [← e]
            exact HF.keep [0, 1, 5, 8, 11, 14]
          · simp only [HF.at 14 rfl, intOf]
            omega
        · obtain rfl : k = nm := by omega
          refine wp_seq (wp_seq (wp_region_lit ?_))
          refine sl_move HF rfl rfl (.inl rfl) (by decide) rfl ?_; clear HF; intro _ HF
          refine sl_move HF rfl rfl (.inl rfl) (by decide) rfl ?_; clear HF; intro _ HF
          refine sl_op HF rfl rfl (by decide) ?_; intro K hK; have e82 := HF.see 82 rfl; go_wp2_with fail; clear e82 HF; intro _ HF
          refine sl_op HF rfl rfl (by decide) ?_; intro K hK; have e81 := HF.see 81 rfl; have e83 := HF.see 83 rfl; go_wp2_with fail; clear e81 e83 HF; intro _ HF
          refine sl_nil (wp_cond_false (HF.at 84 rfl) (wp_exit ?_))
          dsimp only [Exit.then]
          refine sl_exit (sl_then (wp_seq ?_))
          have hs : Calls Tryd.prog 6 #[.slice (some xd) nl cx, .slice (some ld) nl cl, .bool true] w2.drew fun e w' => e = .returned (.bool (sameL true ts0 ts0)) ∧ Mod Nil w2.drew w' := by
            refine same_any All (some xd) (some ld) nl nl cx cl ts0 ts0 true w2.drew HNL.out.symm HNL.out.symm (by omega) (by omega) ?_ ?_
            · have := (HXR.out.keep0 HMOD.out.drew).take (ts0.length * 4)
              rwa [tkCells_take] at this
            · have := (HLR.out.keep0 HMOD.out.drew).take (ts0.length * 4)
              rwa [tkCells_take] at this
          rw [sameL_refl] at hs
          have HS := Lib.hid hs
          clear hs
          apply sl_flow5 (N := 1) [some 108, some 109, some 110, some 111, some 112, some 113, some 114, some 115, some 116, some 117, some 118, some 4] [.quiet 0 0, .quiet 0 0, .quiet 0 0, .quiet 0 0, .quiet 0 0, .quiet 0 0, .quiet 0 0, .quiet 0 0, .quiet 0 0, .quiet 0 0, .writes 0, .quiet 1 1] (PhCall w2.drew (.bool true)) [_, _, _, _, _, _, _, _, _, _, (fun h => h 0), _] HF
          case hm => kernel_rfl
          case hok => kernel_rfl
          case hfl => rfl
          case h0 => exact (fun _ => ⟨fun _ => rfl, fun h => absurd h (by decide)⟩)
          case hobs =>
            apply And.intro
            · apply ob_quiet
              case hg => rfl
              case hop =>
                intro ax wx h k hlo hhi hP hk K hK
                have e11 := hk.see 11 rfl rfl
                clear hk
                go_wp2_with fail
                all_goals first | exact hP | rfl
              case hst => exact fun h h' e => rfl
            apply And.intro
            · apply ob_quiet
              case hg => rfl
              case hop =>
                intro ax wx h k hlo hhi hP hk K hK
                have e5 := hk.see 5 rfl rfl
                clear hk
                go_wp2_with fail
                all_goals first | exact hP | rfl
              case hst => exact fun h h' e => rfl
            apply And.intro
            · apply ob_quiet
              case hg => rfl
              case hop =>
                intro ax wx h k hlo hhi hP hk K hK
                have e109 := hk.see 109 rfl rfl
                clear hk
                go_wp2_with fail
                all_goals first | exact hP | rfl
              case hst => exact fun h h' e => rfl
            apply And.intro
            · apply ob_quiet
              case hg => rfl
              case hop =>
                intro ax wx h k hlo hhi hP hk K hK
                have e110 := hk.see 110 rfl rfl
                clear hk
                go_wp2_with fail
                all_goals first | exact hP | rfl
              case hst => exact fun h h' e => rfl
            apply And.intro
            · apply ob_quiet
              case hg => rfl
              case hop =>
                intro ax wx h k hlo hhi hP hk K hK
                have e108 := hk.see 108 rfl rfl
                have e111 := hk.see 111 rfl rfl
                clear hk
                go_wp2_with fail
                all_goals first | exact hP | rfl
              case hst => exact fun h h' e => rfl
            apply And.intro
            · apply ob_quiet
              case hg => rfl
              case hop =>
                intro ax wx h k hlo hhi hP hk K hK
                have e5 := hk.see 5 rfl rfl
                clear hk
                go_wp2_with fail
                all_goals first | exact hP | rfl
              case hst => exact fun h h' e => rfl
            apply And.intro
            · apply ob_quiet
              case hg => rfl
              case hop =>
                intro ax wx h k hlo hhi hP hk K hK
                have e5 := hk.see 5 rfl rfl
                clear hk
                go_wp2_with fail
                all_goals first | exact hP | rfl
              case hst => exact fun h h' e => rfl
            apply And.intro
            · apply ob_quiet
              case hg => rfl
              case hop =>
                intro ax wx h k hlo hhi hP hk K hK
                have e114 := hk.see 114 rfl rfl
                clear hk
                go_wp2_with fail
                all_goals first | exact hP | rfl
              case hst => exact fun h h' e => rfl
            apply And.intro
            · apply ob_quiet
              case hg => rfl
              case hop =>
                intro ax wx h k hlo hhi hP hk K hK
                have e115 := hk.see 115 rfl rfl
                clear hk
                go_wp2_with fail
                all_goals first | exact hP | rfl
              case hst => exact fun h h' e => rfl
            apply And.intro
            · apply ob_quiet
              case hg => rfl
              case hop =>
                intro ax wx h k hlo hhi hP hk K hK
                have e113 := hk.see 113 rfl rfl
                have e116 := hk.see 116 rfl rfl
                clear hk
                go_wp2_with fail
                all_goals first | exact hP | rfl
              case hst => exact fun h h' e => rfl
            refine And.intro (ob_writes rfl ?op) ?_
            case op =>
              intro ax wx h hP hk K hK
              have e112 := hk.see 112 rfl rfl
              have e117 := hk.see 117 rfl rfl
              clear hk
              obtain rfl : wx = w2.drew := hP.s0 rfl
              clear hP
              go_wp2_with fail
              refine HS.out.mono ?_
              rintro e w' ⟨rfl, hm'⟩
              exact hK _ _ ⟨fun h => absurd h (by decide), fun _ => ⟨hm', upd_same _ _ _⟩⟩
            apply And.intro
            · apply ob_quiet
              case hg => rfl
              case hop =>
                intro ax wx h k hlo hhi hP hk K hK
                have e118 := hk.see 118 rfl rfl
                try dsimp only at e118
                clear hk
                rw [(hP.s1 (by omega)).2] at e118
                go_wp2_with fail
                all_goals first | exact hP | rfl
              case hst => exact fun h h' e => by first | rfl | simp only [e 0 (by decide)]
            exact trivial
          intro w' a' h hP HF
          have h1 := hP.s1 rfl
          refine sl_then (wp_ret ?_)
          exact sl_ret1 HF rfl rfl (HR.out _ (HM.out.trans (HMOD.out.trans (((Mod.refl Nil w2).drew).trans h1.1))))

set_option maxHeartbeats 3200000 in
set_option maxRecDepth 100000 in
theorem scanJoins_any (A B : List UInt8) (w : World) (hA : A.length ≤ 9223372036854775807) (hB : B.length ≤ 9223372036854775807) :
    Calls Tryd.prog 3 #[.string (str A), .string (str B)] w fun e w' => e = .returned (.bool true) ∧ Mod Nil w w' := by
  have hszA := str_size A
  have hszB := str_size B
  refine sl_enter (n := 119) Tryd.func3 rfl rfl (by simp) fun a HF => ?_
  refine wp_seq (wp_region_lit ?_)
  refine sl_const HF rfl rfl (.inr rfl) (by decide) ?_; clear HF; intro _ HF
  refine sl_nil (wp_seq (wp_seq (wp_region_lit ?_)))
  refine sl_op HF rfl rfl (by decide) ?_; intro K hK; go_wp2_with fail
  refine (awake12_any _).mono ?_
  rintro e w1 ⟨rfl, hm1⟩
  have HM1 := Lib.hid hm1
  clear hm1
  go_wp2_with fail; clear HF; intro _ HF
  by_cases h300 : 300 < A.length ∨ 300 < B.length
  · rcases Nat.lt_or_ge 300 A.length with hA3 | hA3
    · have hA3' : decide ((300 : Int) < (A.length : Int)) = true := by simp; omega
      refine sl_op HF rfl rfl (by decide) ?_; intro K hK; have e16 := HF.see 16 rfl; go_wp2_with fail; clear e16 HF; intro _ HF
      refine sl_move HF rfl rfl (.inl rfl) (by decide) rfl ?_; clear HF; intro _ HF
      refine sl_want HF rfl rfl rfl rfl (by decide) ?_; intro K hK; have e0 := HF.see 0 rfl; go_wp2_with fail; clear e0 HF; intro _ HF
      refine sl_want HF rfl rfl rfl rfl (by decide) ?_; intro K hK; have e19 := HF.see 19 rfl; go_wp2_with fail; clear e19 HF; intro _ HF
      refine sl_want HF rfl rfl rfl rfl (by decide) ?_; intro K hK; have e20 := HF.see 20 rfl; go_wp2_with fail; clear e20 HF; intro _ HF
      refine sl_op HF rfl rfl (by decide) ?_; intro K hK; have e18 := HF.see 18 rfl; have e21 := HF.see 21 rfl; go_wp2_with fail; clear e18 e21 HF; intro _ HF
      refine sl_move HF rfl rfl (.inl rfl) (by decide) rfl ?_; clear HF; intro _ HF
      refine sl_skip HF rfl rfl rfl rfl (by decide) ?_; clear HF; intro _ HF
      refine sl_skip HF rfl rfl rfl rfl (by decide) ?_; clear HF; intro _ HF
      refine sl_skip HF rfl rfl rfl rfl (by decide) ?_; clear HF; intro _ HF
      refine sl_op HF rfl rfl (by decide) ?_; intro K hK; have e23 := HF.see 23 rfl; have e26 := HF.see 26 rfl; go_wp2_with fail; clear e23 e26 HF; intro _ HF
      refine sl_nil (wp_cond_true (HF.at 27 rfl) (wp_seq (wp_region_lit ?_)))
      refine sl_op HF rfl rfl (by decide) ?_; intro K hK; go_wp2_with fail
      refine (awake12_any _).mono ?_
      rintro e w2 ⟨rfl, hm2⟩
      have HM2 := Lib.hid (HM1.out.trans hm2)
      clear hm2
      go_wp2_with fail; clear HF; intro _ HF
      refine sl_move HF rfl rfl (.inr rfl) (by decide) rfl ?_; clear HF; intro _ HF
      refine sl_nil (wp_ret ?_)
      dsimp only [Exit.then]
      exact sl_ret1 HF rfl rfl ⟨rfl, HM2.out⟩
    · have hB3 : decide ((300 : Int) < (B.length : Int)) = true := by simp; omega
      have hA3' : decide ((300 : Int) < (A.length : Int)) = false := by simp; omega
      refine sl_op HF rfl rfl (by decide) ?_; intro K hK; have e16 := HF.see 16 rfl; go_wp2_with fail; clear e16 HF; intro _ HF
      refine sl_move HF rfl rfl (.inl rfl) (by decide) rfl ?_; clear HF; intro _ HF
      refine sl_want HF rfl rfl rfl rfl (by decide) ?_; intro K hK; have e0 := HF.see 0 rfl; go_wp2_with fail; clear e0 HF; intro _ HF
      refine sl_want HF rfl rfl rfl rfl (by decide) ?_; intro K hK; have e19 := HF.see 19 rfl; go_wp2_with fail; clear e19 HF; intro _ HF
      refine sl_want HF rfl rfl rfl rfl (by decide) ?_; intro K hK; have e20 := HF.see 20 rfl; go_wp2_with fail; clear e20 HF; intro _ HF
      refine sl_op HF rfl rfl (by decide) ?_; intro K hK; have e18 := HF.see 18 rfl; have e21 := HF.see 21 rfl; go_wp2_with fail; clear e18 e21 HF; intro _ HF
      refine sl_move HF rfl rfl (.inl rfl) (by decide) rfl ?_; clear HF; intro _ HF
      refine sl_want HF rfl rfl rfl rfl (by decide) ?_; intro K hK; have e1 := HF.see 1 rfl; go_wp2_with fail; clear e1 HF; intro _ HF
      refine sl_want HF rfl rfl rfl rfl (by decide) ?_; intro K hK; have e24 := HF.see 24 rfl; go_wp2_with fail; clear e24 HF; intro _ HF
      refine sl_want HF rfl rfl rfl rfl (by decide) ?_; intro K hK; have e25 := HF.see 25 rfl; go_wp2_with fail; clear e25 HF; intro _ HF
      refine sl_op HF rfl rfl (by decide) ?_; intro K hK; have e23 := HF.see 23 rfl; have e26 := HF.see 26 rfl; go_wp2_with fail; clear e23 e26 HF; intro _ HF
      refine sl_nil (wp_cond_true (HF.at 27 rfl) (wp_seq (wp_region_lit ?_)))
      refine sl_op HF rfl rfl (by decide) ?_; intro K hK; go_wp2_with fail
      refine (awake12_any _).mono ?_
      rintro e w2 ⟨rfl, hm2⟩
      have HM2 := Lib.hid (HM1.out.trans hm2)
      clear hm2
      go_wp2_with fail; clear HF; intro _ HF
      refine sl_move HF rfl rfl (.inr rfl) (by decide) rfl ?_; clear HF; intro _ HF
      refine sl_nil (wp_ret ?_)
      dsimp only [Exit.then]
      exact sl_ret1 HF rfl rfl ⟨rfl, HM2.out⟩
  · have hA3 : A.length ≤ 300 := by omega
    have hB3 : B.length ≤ 300 := by omega
    have hA3' : decide ((300 : Int) < (A.length : Int)) = false := by simp; omega
    have hB3' : decide ((300 : Int) < (B.length : Int)) = false := by simp; omega
    clear h300
    refine sl_op HF rfl rfl (by decide) ?_; intro K hK; have e16 := HF.see 16 rfl; go_wp2_with fail; clear e16 HF; intro _ HF
    refine sl_move HF rfl rfl (.inl rfl) (by decide) rfl ?_; clear HF; intro _ HF
    refine sl_want HF rfl rfl rfl rfl (by decide) ?_; intro K hK; have e0 := HF.see 0 rfl; go_wp2_with fail; clear e0 HF; intro _ HF
    refine sl_want HF rfl rfl rfl rfl (by decide) ?_; intro K hK; have e19 := HF.see 19 rfl; go_wp2_with fail; clear e19 HF; intro _ HF
    refine sl_want HF rfl rfl rfl rfl (by decide) ?_; intro K hK; have e20 := HF.see 20 rfl; go_wp2_with fail; clear e20 HF; intro _ HF
    refine sl_op HF rfl rfl (by decide) ?_; intro K hK; have e18 := HF.see 18 rfl; have e21 := HF.see 21 rfl; go_wp2_with fail; clear e18 e21 HF; intro _ HF
    refine sl_move HF rfl rfl (.inl rfl) (by decide) rfl ?_; clear HF; intro _ HF
    refine sl_want HF rfl rfl rfl rfl (by decide) ?_; intro K hK; have e1 := HF.see 1 rfl; go_wp2_with fail; clear e1 HF; intro _ HF
    refine sl_want HF rfl rfl rfl rfl (by decide) ?_; intro K hK; have e24 := HF.see 24 rfl; go_wp2_with fail; clear e24 HF; intro _ HF
    refine sl_want HF rfl rfl rfl rfl (by decide) ?_; intro K hK; have e25 := HF.see 25 rfl; go_wp2_with fail; clear e25 HF; intro _ HF
    refine sl_op HF rfl rfl (by decide) ?_; intro K hK; have e23 := HF.see 23 rfl; have e26 := HF.see 26 rfl; go_wp2_with fail; clear e23 e26 HF; intro _ HF
    refine sl_nil (wp_cond_false (HF.at 27 rfl) (wp_skip (sl_then ?_)))
    clear hA3' hB3'
    refine wp_seq (wp_region_lit ?_)
    refine sl_move HF rfl rfl (.inl rfl) (by decide) rfl ?_; clear HF; intro _ HF
    refine sl_op HF rfl rfl (by decide) ?_; intro K hK; have e30 := HF.see 30 rfl; go_wp2_with fail
    refine (scAll_any A hA _).mono ?_
    rintro e w2 ⟨hr, hm2⟩
    obtain ⟨v1, c1, p1, rfl, hv1⟩ := hr.vals
    have HV1 := Lib.hid hv1
    have HM2 := Lib.hid hm2
    clear hr hm2 hv1
    go_wp2_with fail; clear e30 HF; intro _ HF
    refine sl_move HF rfl rfl (.inl rfl) (by decide) rfl ?_; clear HF; intro _ HF
    refine sl_op HF rfl rfl (by decide) ?_; intro K hK; have e29 := HF.see 29 rfl; go_wp2_with fail; clear e29 HF; intro _ HF
    refine sl_op HF rfl rfl (by decide) ?_; intro K hK; have e29 := HF.see 29 rfl; go_wp2_with fail; clear e29 HF; intro _ HF
    refine sl_op HF rfl rfl (by decide) ?_; intro K hK; have e29 := HF.see 29 rfl; go_wp2_with fail; clear e29 HF; intro _ HF
    refine sl_move HF rfl rfl (.inr rfl) (by decide) rfl ?_; clear HF; intro _ HF
    refine sl_move HF rfl rfl (.inr rfl) (by decide) rfl ?_; clear HF; intro _ HF
    refine sl_move HF rfl rfl (.inr rfl) (by decide) rfl ?_; clear HF; intro _ HF
    refine sl_nil (wp_seq (wp_region_lit ?_))
    refine sl_move HF rfl rfl (.inl rfl) (by decide) rfl ?_; clear HF; intro _ HF
    refine sl_op HF rfl rfl (by decide) ?_; intro K hK; have e36 := HF.see 36 rfl; go_wp2_with fail
    refine (scAll_any B hB _).mono ?_
    rintro e w3 ⟨hr, hm3⟩
    obtain ⟨v2, c2, p2, rfl, hv2⟩ := hr.vals
    have HV2 := Lib.hid hv2
    have HM3 := Lib.hid hm3
    clear hr hm3 hv2
    go_wp2_with fail; clear e36 HF; intro _ HF
    refine sl_move HF rfl rfl (.inl rfl) (by decide) rfl ?_; clear HF; intro _ HF
    refine sl_op HF rfl rfl (by decide) ?_; intro K hK; have e35 := HF.see 35 rfl; go_wp2_with fail; clear e35 HF; intro _ HF
    refine sl_op HF rfl rfl (by decide) ?_; intro K hK; have e35 := HF.see 35 rfl; go_wp2_with fail; clear e35 HF; intro _ HF
    refine sl_op HF rfl rfl (by decide) ?_; intro K hK; have e35 := HF.see 35 rfl; go_wp2_with fail; clear e35 HF; intro _ HF
    refine sl_move HF rfl rfl (.inr rfl) (by decide) rfl ?_; clear HF; intro _ HF
    refine sl_move HF rfl rfl (.inr rfl) (by decide) rfl ?_; clear HF; intro _ HF
    refine sl_move HF rfl rfl (.inr rfl) (by decide) rfl ?_; clear HF; intro _ HF
    refine sl_nil (wp_seq (wp_region_lit ?_))
    have hcat : str A ++ ⟨#[10]⟩ ++ str B = str (A ++ 10 :: B) := by
      rw [show (⟨#[10]⟩ : ByteArray) = str [10] from rfl, str_append, str_append]
      simp
    refine sl_move HF rfl rfl (.inl rfl) (by decide) rfl ?_; clear HF; intro _ HF
    refine sl_op HF rfl rfl (by decide) ?_; intro K hK; have e42 := HF.see 42 rfl; go_wp2_with fail; clear e42 HF; intro _ HF
    refine sl_move HF rfl rfl (.inl rfl) (by decide) rfl ?_; clear HF; intro _ HF
    refine sl_op HF rfl rfl (by decide) ?_; intro K hK; have e43 := HF.see 43 rfl; have e44 := HF.see 44 rfl; go_wp2_with fail; clear e43 e44 HF; intro _ HF
    refine sl_op HF rfl rfl (by decide) ?_; intro K hK; have e45 := HF.see 45 rfl; go_wp2_with fail
    refine (scAll_any (A ++ 10 :: B) (by simp; omega) _).mono ?_
    rintro e w4 ⟨hr, hm4⟩
    obtain ⟨v3, c3, p3, rfl, hv3⟩ := hr.vals
    have HV3 := Lib.hid hv3
    have HM4 := Lib.hid hm4
    clear hr hm4 hv3
    go_wp2_with fail; clear e45 HF; intro _ HF
    refine sl_move HF rfl rfl (.inl rfl) (by decide) rfl ?_; clear HF; intro _ HF
    refine sl_op HF rfl rfl (by decide) ?_; intro K hK; have e41 := HF.see 41 rfl; go_wp2_with fail; clear e41 HF; intro _ HF
    refine sl_op HF rfl rfl (by decide) ?_; intro K hK; have e41 := HF.see 41 rfl; go_wp2_with fail; clear e41 HF; intro _ HF
    refine sl_op HF rfl rfl (by decide) ?_; intro K hK; have e41 := HF.see 41 rfl; go_wp2_with fail; clear e41 HF; intro _ HF
    refine sl_move HF rfl rfl (.inr rfl) (by decide) rfl ?_; clear HF; intro _ HF
    refine sl_move HF rfl rfl (.inr rfl) (by decide) rfl ?_; clear HF; intro _ HF
    refine sl_move HF rfl rfl (.inr rfl) (by decide) rfl ?_; clear HF; intro _ HF
    refine sl_nil ?_
    exact join_rest _ (HF.keep [0, 1, 5, 6, 8, 9, 11, 12, 13]) hA3 hB3 (HV1.out.keep (HM3.out.trans HM4.out)) (HV2.out.keep HM4.out) HV3.out (((HM1.out.trans HM2.out).trans HM3.out).trans HM4.out) fun w' h => ⟨rfl, h⟩
end Go.Proofs.YtpjpmlhnhcmacaaDoor
