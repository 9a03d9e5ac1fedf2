/- Parts of the proof of ScanStreams, joined: ScsW. -/
import Derived.Test.YtefloadjolpgbaaGreatDoorScanStreamsj10
import Derived.RangeFuncLeaves
namespace Go.Proofs.YtefloadjolpgbaaGreatDoor
open Go.RowKit

noncomputable def ssBody : Code := (Tryz.f3.body).getD .skip

theorem sl_enterM {P : Program} {F : Fence} {m n : Nat} (hW : Wd F) (hro : F.round = none) {f : FuncId} {fn : Func} {c : Code} {args : List Value} {w : World} {R : Ending → World → Prop} (hf : P.funcs[f]? = some fn) (hb : fn.body = some c) (hn : fn.ntmps = n) (ha : args.length ≤ n)
    (h : ∀ a, Sl n (argL args 0) a → c.wpIn F m P (bodyPostM F m P fn R) a w) : CallsIn F m P f args.toArray w R := by
  refine callsIn_of_wp_marks hf hb (hW.fn f) (h _ ⟨?_, rfl, fun t v e => ?_⟩) hro
  · simp [hn]
    omega
  · obtain ⟨_, h2⟩ := look_argL _ _ _ _ e
    have hl := (List.getElem?_eq_some_iff.1 h2).1
    simp only [Nat.sub_zero] at h2 hl
    simp only [Act.eval, Array.getD_eq_getD_getElem?, Array.getElem?_append, List.size_toArray, hl, if_true, List.getElem?_toArray, h2, Option.getD_some]

theorem results_cell1 {fn : Func} {p : Tmp} {ty : TypeId} (h : fn.results = #[.cell p ty]) (tmps : Array Value) (P : Program) (w : World) {ad : Addr} {v : Value} (hp : (tmps[p]?).getD undef = .pointer (some ad)) (hv : (loadVar ty ad).run P w = .ok v w) : (results fn tmps).run P w = .ok v w := by
  simp only [results, h]
  simp [Sem.run_bind, Result.andThen, hp, asAddr, hv]

theorem load_bool {w : World} {g : Nat} {b : Bool} (hb : Blk w g 4 #[.bool b]) : (loadVar 4 ⟨g, 0, none⟩).run Tryz.prog w = .ok (.bool b) w := by
  have hagg : (isAgg 4).run Tryz.prog w = .ok false w := by
    unfold isAgg
    rw [Sem.run_bind, run_underlying Tryz.underlying4 w]
    simp
  have hc := hb.cell 0
  simp only [List.getElem?_toArray, List.getElem?_cons_zero] at hc
  simp [loadVar, Sem.run_bind, hagg, hc]

set_option maxHeartbeats 1600000 in
set_option maxRecDepth 100000 in
theorem stream_any (l : List UInt8) (w : World) : Calls Tryz.prog 6 #[.string (str l)] w fun e w' => e = .returned (.func (.func 9) #[] #[.pointer (some ⟨w.heap.size, 0, none⟩)]) ∧ Blk w' w.heap.size 9 #[.string (str l)] ∧ Mod Nil w w' := by
  have hb := Blk.new w 9 #[.string (str l)]
  have HM := Lib.hid ((Mod.refl Nil w).alloc (.cells #[.string (str l)] 9))
  have HB := Lib.hid hb
  clear hb
  go_enter Tryz.func6, Tryz.ntmps6
  go_wp2_with fail
  go_ret
  exact ⟨rfl, HB.out, HM.out⟩

/-- What the law's answer is made of. -/
def SsR (w0 : World) (e : Ending) (w' : World) : Prop := e = .returned (.bool true) ∧ Mod Nil w0 w'

theorem ss_ret {w0 w : World} {a : Act} {n g4 : Nat} {L : List (Tmp × Value)} (HF : Sl n L a) (h4 : look L 4 = some (.pointer (some ⟨g4, 0, none⟩))) (hb : Blk w g4 4 #[.bool true]) (hm : Mod Nil w0 w) {m : Nat} :
    bodyPostM Fence.wide m Tryz.prog Tryz.f3 (SsR w0) .ret a w := by
  have e4 := HF.see 4 h4
  show LeavesInM _ _ _ _ _ _ a.defers _ _
  rw [HF.nd]
  exact ⟨.bool true, results_cell1 rfl _ _ _ e4 (load_bool hb), rfl, hm⟩

/-- The law's state ahead of the tokens. -/
structure SsT (w0 W : World) (l : List UInt8) (most : Int) (g3 g4 g5 : Nat) (A : Option Addr) (c : Nat) : Prop where
  b3 : Blk W g3 5 #[.int .u8 most]
  b4 : Blk W g4 4 #[.bool false]
  b5 : Blk W g5 23 #[.slice A (strW l 0).length c]
  rd : Rd (fun b => b ≠ g4) W A (tkCells (strW l 0))
  le : (strW l 0).length ≤ c
  c63 : c ≤ 9223372036854775807
  ne : g3 ≠ g4 ∧ g5 ≠ g4
  g4 : w0.heap.size ≤ g4
  mod : Mod Nil w0 W

theorem allv_rd {B : Nat} {ts : List (Tok × Nat)} {v : Value} {c p : Nat} {w : World} (h : AllV B (.ok ts) v c p w) : ∃ A cp, v = .slice A ts.length cp ∧ ts.length ≤ cp ∧ cp ≤ 9223372036854775807 ∧ Rd (fun b => B ≤ b) w A (tkCells ts) := by
  have ho := h.2.2
  rcases ho.2 with ⟨rfl, h0⟩ | ⟨g, cap, cur, rfl, hb, hg, hnc, hcm, hcs, htk⟩
  · exact ⟨none, 0, by rw [h0], by omega, by omega, fun hp => by rw [tkCells_length, h0] at hp; simp at hp⟩
  · exact ⟨some ⟨g, 0, none⟩, cap, rfl, hnc, hcm, fun _ => ⟨_, rfl, hb, (Array.getElem?_eq_some_iff.1 hg).1, ho.cells (g := g) rfl⟩⟩

theorem sl_exit_ne {id j : Nat} {Q : Exit → Act → World → Prop} {a : Act} {w : World} (hn : j ≠ id) (h : Q (.exit j) a w) : Exit.inBlock id Q (.exit j) a w := by
  simp [Exit.inBlock, hn, h]

/-- While the longest part that scans is looked for. -/
def SsI (w0 : World) (l : List UInt8) (most : Int) (g3 g4 g5 : Nat) (ac : Act) (w : World) : Prop :=
  ∃ i : Nat, Sl 86 [(0, .string (str l)), (3, .pointer (some ⟨g3, 0, none⟩)), (4, .pointer (some ⟨g4, 0, none⟩)), (5, .pointer (some ⟨g5, 0, none⟩)), (6, .int .i64 (i : Nat))] ac ∧ Blk w g3 5 #[.int .u8 most] ∧ Blk w g4 4 #[.bool false] ∧
    Blk w g5 23 #[.slice none 0 0] ∧ Mod Nil w0 w ∧ (i = l.length ∨ (allL l = .error i ∧ 0 < i))

theorem mn_two (ats : Array TypeId) (ty : TypeId) (k k' : IntKind) (x y : Int) : Builtin.min_ ats ty #[.int k x, .int k' y] = pure (.int k (if y < x then y else x)) := by
  simp only [Builtin.min_, List.foldlM_cons, List.foldlM_nil, Builtin.min2]
  simp
attribute [local go_sem] mn_two

/-- The law's cells, in a world of the loop: so many tokens have come. -/
structure SsC (l : List UInt8) (most : Int) (g3 g4 g5 gN : Nat) (A : Option Addr) (c : Nat) (n : Nat) (W : World) : Prop where
  b3 : Blk W g3 5 #[.int .u8 most]
  b4 : Blk W g4 4 #[.bool false]
  b5 : Blk W g5 23 #[.slice A (strW l 0).length c]
  bN : Blk W gN 3 #[.int .i64 (n : Nat)]

theorem ss_end {w0 W : World} {l : List UInt8} {most : Int} {g3 g4 g5 gN D n c : Nat} {A : Option Addr} {a : Act} (hm0 : 0 ≤ most) (hm1 : most ≤ 255) (hl : (strW l 0).length ≤ 100000)
    (HF : SlD 86 [{ target := .collected D, args := #[] }] [(3, .pointer (some ⟨g3, 0, none⟩)), (4, .pointer (some ⟨g4, 0, none⟩)), (5, .pointer (some ⟨g5, 0, none⟩)), (10, .pointer (some ⟨gN, 0, none⟩))] a)
    (hC : SsC l most g3 g4 g5 gN A c n W) (hn : (n : Int) = if ((strW l 0).length : Int) < most then ((strW l 0).length : Int) else most) (hD : W.heap[D]? = some (.deferred (some []))) (hDw : w0.heap.size ≤ D) (hg4 : w0.heap.size ≤ g4) (hm : Mod Nil w0 W) :
    (part [1, 1, 1, 1, 1, 1] ssBody).wp Tryz.prog (bodyPostM Fence.wide 9 Tryz.prog Tryz.f3 (SsR w0)) a W := by
  have HC := Lib.hid hC
  have HM := Lib.hid hm
  have HD := Lib.hid hD
  have c3 := hC.b3.cell 0
  have c4 := hC.b4.cell 0
  have f4 := hC.b4.frozen 0
  have c5 := hC.b5.cell 0
  have cN := hC.bN.cell 0
  simp only [List.getElem?_toArray, List.getElem?_cons_zero] at c3 c4 c5 cN
  obtain ⟨sn, hsn⟩ : ∃ sn, (strW l 0).length = sn := ⟨_, rfl⟩
  rw [hsn] at c5 hn hl
  have hfin : ∀ (a' : Act), SlD 86 [{ target := .collected D, args := #[] }] [(4, .pointer (some ⟨g4, 0, none⟩))] a' → bodyPostM Fence.wide 9 Tryz.prog Tryz.f3 (SsR w0) .ret a' (W.setCell ⟨g4, 0, none⟩ (.bool true)) := fun a' hF => by
    have hb := HC.out.b4.set_ 0 (.bool true)
    have hb' : Blk (W.setCell ⟨g4, 0, none⟩ (.bool true)) g4 4 #[.bool true] := by simpa using hb
    have hgD : g4 ≠ D := fun e => by
      have h1 := HC.out.b4
      unfold Blk at h1
      rw [e, HD.out] at h1
      cases h1
    have hD' : (W.setCell ⟨g4, 0, none⟩ (.bool true)).heap[D]? = some (.deferred (some [])) := (Below.heap_setCell W ⟨g4, 0, none⟩ _ D hgD.symm).trans HD.out
    have hm' := HM.out.set (p := ⟨g4, 0, none⟩) (.inr hg4) (.bool true)
    generalize W.setCell ⟨g4, 0, none⟩ (.bool true) = W2 at hb' hD' hm' ⊢
    show LeavesInM _ _ _ _ _ _ a'.defers _ _
    rw [hF.df]
    refine ⟨by simp, .inl ⟨_, _, rfl, run_takeDeferred hD', ?_⟩⟩
    have hb2 : Blk (W2.putObj D (.deferred none)) g4 4 #[.bool true] := by
      unfold Blk at hb' ⊢
      rw [(grownBy_putObj' W2 D (.deferred none)).block g4 (Array.getElem?_eq_some_iff.1 hb').1 (fun e => hgD (Option.some.inj e))]
      exact hb'
    have hg := grownBy_putObj' W2 D (.deferred none)
    have hm2 : Mod Nil w0 (W2.putObj D (.deferred none)) := ⟨hg.os.trans hm'.os, hg.tape.trans hm'.tape, hg.output.trans hm'.output, Nat.le_trans hm'.size hg.size, fun k hk hn => (hg.block k (Nat.lt_of_lt_of_le hk hm'.size) (fun e => by have := Option.some.inj e; omega)).trans (hm'.block k hk hn)⟩
    exact ⟨.bool true, results_cell1 rfl _ _ _ (hF.see 4 rfl) (load_bool hb2), rfl, hm2⟩
  have HFIN := Lib.hid hfin
  have HN := Lib.hid hn
  clear hC hm hD hsn hn hfin
  conv => arg 2; whnf
  by_cases hlt : (sn : Int) < most
  · have hq : ((n : Int) == (sn : Int)) = true := by rw [HN.out, if_pos hlt]; simp
    refine wp_seq (wp_region_lit ?_)
    refine slD_op HF rfl rfl (by decide) ?_; intro K hK; have e10 := HF.see 10 rfl; go_wp2_with fail; clear e10 HF; intro _ HF
    refine slD_op HF rfl rfl (by decide) ?_; intro K hK; have e3 := HF.see 3 rfl; go_wp2_with fail; clear e3 HF; intro _ HF
    refine slD_op HF rfl rfl (by decide) ?_; intro K hK; have e80 := HF.see 80 rfl; go_wp2_with fail; clear e80 HF; intro _ HF
    refine slD_op HF rfl rfl (by decide) ?_; intro K hK; have e5 := HF.see 5 rfl; go_wp2_with fail; clear e5 HF; intro _ HF
    refine slD_op HF rfl rfl (by decide) ?_; intro K hK; have e82 := HF.see 82 rfl; go_wp2_with fail; clear e82 HF; intro _ HF
    refine slD_op HF rfl rfl (by decide) ?_; intro K hK; have e81 := HF.see 81 rfl; have e83 := HF.see 83 rfl; go_wp2_with fail; clear e81 e83 HF; intro _ HF
    refine slD_op HF rfl rfl (by decide) ?_; intro K hK; have e79 := HF.see 79 rfl; have e84 := HF.see 84 rfl; go_wp2_with fail; clear e79 e84 HF; intro _ HF
    refine slD_op0 HF rfl rfl ?_; intro K hK; have e4 := HF.see 4 rfl; have e85 := HF.see 85 rfl; go_wp2_with fail; clear e4 e85 HF; intro _ HF
    have HF2 := HF.keep [4]
    simp only [pick, look] at HF2
    exact sl_nil (wp_ret (HFIN.out _ HF2))
  · have hq : ((n : Int) == most) = true := by rw [HN.out, if_neg hlt]; simp
    refine wp_seq (wp_region_lit ?_)
    refine slD_op HF rfl rfl (by decide) ?_; intro K hK; have e10 := HF.see 10 rfl; go_wp2_with fail; clear e10 HF; intro _ HF
    refine slD_op HF rfl rfl (by decide) ?_; intro K hK; have e3 := HF.see 3 rfl; go_wp2_with fail; clear e3 HF; intro _ HF
    refine slD_op HF rfl rfl (by decide) ?_; intro K hK; have e80 := HF.see 80 rfl; go_wp2_with fail; clear e80 HF; intro _ HF
    refine slD_op HF rfl rfl (by decide) ?_; intro K hK; have e5 := HF.see 5 rfl; go_wp2_with fail; clear e5 HF; intro _ HF
    refine slD_op HF rfl rfl (by decide) ?_; intro K hK; have e82 := HF.see 82 rfl; go_wp2_with fail; clear e82 HF; intro _ HF
    refine slD_op HF rfl rfl (by decide) ?_; intro K hK; have e81 := HF.see 81 rfl; have e83 := HF.see 83 rfl; go_wp2_with fail; clear e81 e83 HF; intro _ HF
    refine slD_op HF rfl rfl (by decide) ?_; intro K hK; have e79 := HF.see 79 rfl; have e84 := HF.see 84 rfl; go_wp2_with fail; clear e79 e84 HF; intro _ HF
    refine slD_op0 HF rfl rfl ?_; intro K hK; have e4 := HF.see 4 rfl; have e85 := HF.see 85 rfl; go_wp2_with fail; clear e4 e85 HF; intro _ HF
    have HF2 := HF.keep [4]
    simp only [pick, look] at HF2
    exact sl_nil (wp_ret (HFIN.out _ HF2))

/-! ### what the loop keeps -/
theorem blk_own {B : Nat} {W W' : World} {row : Option Nat} (hg : W.grownBy W' row) (hr : ∀ r, row = some r → B ≤ r ∧ ∃ o : Obj, W.heap[r]? = some o ∧ o.isCells = false) {g : Nat} {t : TypeId} {cs : Array Value} (hb : Blk W g t cs) : Blk W' g t cs :=
  (grownBy_keeps_cells hg (fun r e => (hr r e).2) hb rfl).trans hb
theorem rd_own {B : Nat} {W W' : World} {row : Option Nat} (hg : W.grownBy W' row) (hr : ∀ r, row = some r → B ≤ r ∧ ∃ o : Obj, W.heap[r]? = some o ∧ o.isCells = false) {S : Nat → Prop} {A : Option Addr} {xs : List Value} (h : Rd S W A xs) : Rd S W' A xs := fun hp => by
  obtain ⟨ad, e, hs, hl, hc⟩ := h hp
  exact ⟨ad, e, hs, Nat.lt_of_lt_of_le hl hg.size, fun j u hu => cell_kept (hc j u hu) hg (fun r e => (hr r e).2)⟩
theorem ssc_own {B : Nat} {W W' : World} {row : Option Nat} (hg : W.grownBy W' row) (hr : ∀ r, row = some r → B ≤ r ∧ ∃ o : Obj, W.heap[r]? = some o ∧ o.isCells = false) {l : List UInt8} {most : Int} {g3 g4 g5 gN : Nat} {A : Option Addr} {c n : Nat} (h : SsC l most g3 g4 g5 gN A c n W) : SsC l most g3 g4 g5 gN A c n W' :=
  ⟨blk_own hg hr h.b3, blk_own hg hr h.b4, blk_own hg hr h.b5, blk_own hg hr h.bN⟩
theorem kpc_trans {G : Nat → Prop} {A B C : World} (h : KpC G A B) (k : KpC G B C) : KpC G A C := ⟨Nat.le_trans h.size k.size, fun i o h1 h2 h3 => k.same i o (h.same i o h1 h2 h3) h2 h3⟩
theorem kpc_put {G : Nat → Prop} (W : World) (l : Nat) (o o' : Obj) (hl : W.heap[l]? = some o) (ho : o.isCells = false) : KpC G W (W.putObj l o') :=
  ⟨(grownBy_putObj' W l o').size, fun k x hk hx _ => ((grownBy_putObj' W l o').block k (Array.getElem?_eq_some_iff.1 hk).1 (fun e => by
    have := Option.some.inj e
    subst this
    rw [hl] at hk
    cases hk
    rw [ho] at hx
    cases hx)).trans hk⟩
theorem kpc_mod {G F : Nat → Prop} {W W' : World} (hm : Mod F W W') (hF : ∀ k, F k → G k) : KpC G W W' := ⟨hm.size, fun k o hk _ hg => (hm.block k (Array.getElem?_eq_some_iff.1 hk).1 (fun h => hg (hF k h))).trans hk⟩

/-- Between two rounds. -/
def SsJ (B0 : Nat) (w0 : World) (l : List UInt8) (most : Int) (g3 g4 g5 gN : Nat) (A : Option Addr) (c : Nat) (pre : List (Tok × Nat)) (W : World) : Prop :=
  (SsC l most g3 g4 g5 gN A c pre.length W ∧ Rd (fun b => b ≠ g4 ∧ b ≠ gN) W A (tkCells (strW l 0)) ∧ Below w0.heap.size w0 W) ∧ (pre <+: strW l 0 ∧ (pre.length : Int) ≤ most ∧ B0 ≤ W.heap.size)
/-- The loop is left. -/
def SsX (w0 : World) (l : List UInt8) (most : Int) (g3 g4 g5 gN : Nat) (A : Option Addr) (c : Nat) (cd : Code) (pre : List (Tok × Nat)) (W : World) : Prop :=
  (cd = .exit 2 ∧ ∃ n, pre.length = n + 1 ∧ (n : Int) = most ∧ SsC l most g3 g4 g5 gN A c n W ∧ Below w0.heap.size w0 W) ∨ (cd = .ret ∧ ¬ pre <+: strW l 0)
/-- A token's variable. -/
def SsA (g3 g4 g5 gN B0 : Nat) (s : ByteArray) (x : Tok × Nat) (a : Act) (W : World) : Prop :=
  ∃ Bx, B0 ≤ Bx ∧ Blk W Bx 30 #[.int .i64 x.1.kind, .string (str x.1.text), .int .i64 x.1.n, .int .i64 x.2] ∧ Sl 86 [(0, .string s), (3, .pointer (some ⟨g3, 0, none⟩)), (4, .pointer (some ⟨g4, 0, none⟩)), (5, .pointer (some ⟨g5, 0, none⟩)), (10, .pointer (some ⟨gN, 0, none⟩)), (11, .pointer (some ⟨Bx, 0, none⟩))] a

def rfBody : Code → Code
  | .rangeFunc _ _ _ b => b
  | c => c

theorem slIn_fin {F : Fence} {m : Nat} {P : Program} {ops : Array Oper} {K : Act → World → Prop} {Q' : Exit → Act → World → Prop} {a : Act} {w : World} (h : K a w) : wpListIn F m P ops (Exit.then K Q') [] a w := h

theorem ss_addn (a : Addr) (n j : Nat) : a.add (n + (j + 1)) = ⟨(a.add n).block, (a.add n).off + (j + 1), none⟩ := by
  unfold Addr.add
  split <;> split <;> simp_all <;> omega

theorem cells4 {S : Nat → Prop} {W : World} {A : Option Addr} {ts : List (Tok × Nat)} {i : Nat} {p : Tok × Nat} (h : Rd S W A (tkCells ts)) (hp : ts[i]? = some p) :
    ∃ ad, A = some ad ∧ S ad.block ∧ ad.block < W.heap.size ∧ W.cell? (ad.add (i * 4)) = some (.int .i64 p.1.kind) ∧ W.cell? ⟨(ad.add (i * 4)).block, (ad.add (i * 4)).off + 1, none⟩ = some (.string (str p.1.text)) ∧
      W.cell? ⟨(ad.add (i * 4)).block, (ad.add (i * 4)).off + 2, none⟩ = some (.int .i64 p.1.n) ∧ W.cell? ⟨(ad.add (i * 4)).block, (ad.add (i * 4)).off + 3, none⟩ = some (.int .i64 p.2) := by
  have h0 := tkCells_get ts i p 0 _ hp rfl
  have hl := (List.getElem?_eq_some_iff.1 h0).1
  obtain ⟨ad, rfl, hs, hb, hc⟩ := h (by omega)
  refine ⟨ad, rfl, hs, hb, hc _ _ (by simpa using h0), ?_, ?_, ?_⟩
  · rw [← ss_addn ad (i * 4) 0]; exact hc _ _ (tkCells_get ts i p 1 _ hp rfl)
  · rw [← ss_addn ad (i * 4) 1]; exact hc _ _ (tkCells_get ts i p 2 _ hp rfl)
  · rw [← ss_addn ad (i * 4) 2]; exact hc _ _ (tkCells_get ts i p 3 _ hp rfl)

set_option maxHeartbeats 1600000 in
set_option maxRecDepth 100000 in
theorem ss_cmp {F : Fence} {m : Nat} (HW : Wd F) {Q : Exit → Act → World → Prop} (hL : ¬ LetsOut Q) {g4 g5 gN Bx sn n c : Nat} {ad : Addr} {W : World} {a : Act} {x y : Tok × Nat}
    (HF : Sl 86 [(4, .pointer (some ⟨g4, 0, none⟩)), (5, .pointer (some ⟨g5, 0, none⟩)), (10, .pointer (some ⟨gN, 0, none⟩)), (11, .pointer (some ⟨Bx, 0, none⟩))] a)
    (hbx : Blk W Bx 30 #[.int .i64 x.1.kind, .string (str x.1.text), .int .i64 x.1.n, .int .i64 x.2]) (hb5 : Blk W g5 23 #[.slice (some ad) sn c]) (hbN : Blk W gN 3 #[.int .i64 (n : Nat)]) (hlt : n < sn) (hsn : sn ≤ 100000)
    (hm0 : W.cell? (ad.add (n * 4)) = some (.int .i64 y.1.kind)) (hm1 : W.cell? ⟨(ad.add (n * 4)).block, (ad.add (n * 4)).off + 1, none⟩ = some (.string (str y.1.text))) (hm2 : W.cell? ⟨(ad.add (n * 4)).block, (ad.add (n * 4)).off + 2, none⟩ = some (.int .i64 y.1.n)) (hm3 : W.cell? ⟨(ad.add (n * 4)).block, (ad.add (n * 4)).off + 3, none⟩ = some (.int .i64 y.2))
    (hYes : x = y → ∀ a', Sl 86 [(4, .pointer (some ⟨g4, 0, none⟩)), (10, .pointer (some ⟨gN, 0, none⟩)), (76, .bool false)] a' → Q .normal a' W.drew)
    (hNo : x ≠ y → ∀ a', Sl 86 [(4, .pointer (some ⟨g4, 0, none⟩)), (10, .pointer (some ⟨gN, 0, none⟩)), (76, .bool true)] a' → Q .normal a' W.drew) :
    (part [0, 1, 0, 0] (rfBody (part [1, 1, 1, 1, 1, 0, 1, 0] ssBody))).wpIn F m Tryz.prog Q a W := by
  have hst28 : Tryz.prog.stoodInHeld 30 = false := by kernel_rfl
  have heg28 : Tryz.prog.eqGuardType Tryz.prog.depth 30 = false := by kernel_rfl
  have HYES := Lib.hid hYes
  have HNO := Lib.hid hNo
  obtain ⟨⟨tk, tt, tn⟩, tp⟩ := x
  obtain ⟨⟨yk, yt, yn⟩, yp⟩ := y
  simp only at hbx hm0 hm1 hm2 hm3
  have d0 := hbx.cell 0
  have d1 := hbx.cell 1
  have d2 := hbx.cell 2
  have d3 := hbx.cell 3
  have c5 := hb5.cell 0
  have cN := hbN.cell 0
  simp only [List.getElem?_toArray, List.getElem?_cons_zero, List.getElem?_cons_succ] at d0 d1 d2 d3 c5 cN
  have hge : decide ((sn : Int) ≤ (n : Int)) = false := by simp; omega
  have hgn : decide (sn ≤ n) = false := by simp; omega
  clear hbx hb5 hbN hYes hNo
  conv => arg 4; whnf
  by_cases hne : ¬ (tk = yk)
  · have g1 : ((tk : Int) == (yk : Int)) = false := by simp; omega
    have g2 : ((tk : Int) != (yk : Int)) = true := by rw [bne, g1]; rfl
    have HX := Lib.hid (HNO.out (fun h => hne (by cases h; rfl)))
    clear hne
    refine region_in HW (by kernel_rfl) hL (by kernel_rfl) ?_
    apply sl_any6 (N := 0) [some 65, some 66, some 67, some 68, some 69, some 70, some 71, some 72, some 73, some 74, some 75, some 76] [.quiet [] [], .quiet [] [], .quiet [] [], .quiet [] [], .quiet [] [], .quiet [] [], .quiet [] [], .quiet [] [], .quiet [] [], .quiet [] [], .quiet [] [], .quiet [] []] (fun _ _ w => w = W.drew) [_, _, _, _, _, _, _, _, _, _, _, _] HF
    case hm => kernel_rfl
    case hok => kernel_rfl
    case hfl => rfl
    case h0 => exact (fun _ => rfl)
    case hobs =>
      apply And.intro
      · apply obm_quiet
        case hg => rfl
        case hop =>
          intro ax wx h S hD hE hP hk K hK
          have e10 := hk.see 10 rfl rfl
          clear hk hD hE
          obtain rfl := hP
          go_wp2_with fail
          all_goals first | exact hP | rfl
        case hst => exact fun h h' e => rfl
      apply And.intro
      · apply obm_quiet
        case hg => rfl
        case hop =>
          intro ax wx h S hD hE hP hk K hK
          have e5 := hk.see 5 rfl rfl
          clear hk hD hE
          obtain rfl := hP
          go_wp2_with fail
          all_goals first | exact hP | rfl
        case hst => exact fun h h' e => rfl
      apply And.intro
      · apply obm_quiet
        case hg => rfl
        case hop =>
          intro ax wx h S hD hE hP hk K hK
          have e66 := hk.see 66 rfl rfl
          clear hk hD hE
          obtain rfl := hP
          go_wp2_with fail
          all_goals first | exact hP | rfl
        case hst => exact fun h h' e => rfl
      apply And.intro
      · apply obm_quiet
        case hg => rfl
        case hop =>
          intro ax wx h S hD hE hP hk K hK
          have e65 := hk.see 65 rfl rfl
          have e67 := hk.see 67 rfl rfl
          clear hk hD hE
          obtain rfl := hP
          go_wp2_with fail
          all_goals first | exact hP | rfl
        case hst => exact fun h h' e => rfl
      apply And.intro
      · apply obm_quiet
        case hg => rfl
        case hop =>
          intro ax wx h S hD hE hP hk K hK
          have e68 := hk.see 68 rfl rfl
          clear hk hD hE
          go_wp2_with fail
          all_goals first | exact hP | rfl
        case hst => exact fun h h' e => rfl
      apply And.intro
      · apply obm_want
        case hg => rfl
        case hj => rfl
        case hv => exact fun _ => rfl
        case hop =>
          intro ax wx h S hD hE hP hk K hK
          have e11 := hk.see 11 rfl rfl
          clear hk hD hE
          obtain rfl := hP
          go_wp2_with fail
          all_goals first | exact hP | rfl
        case hst => exact fun h h' e => rfl
      apply And.intro
      · apply obm_want
        case hg => rfl
        case hj => rfl
        case hv => exact fun _ => rfl
        case hop =>
          intro ax wx h S hD hE hP hk K hK
          have e5 := hk.see 5 rfl rfl
          clear hk hD hE
          obtain rfl := hP
          go_wp2_with fail
          all_goals first | exact hP | rfl
        case hst => exact fun h h' e => rfl
      apply And.intro
      · apply obm_want
        case hg => rfl
        case hj => rfl
        case hv => exact fun _ => rfl
        case hop =>
          intro ax wx h S hD hE hP hk K hK
          have e10 := hk.see 10 rfl rfl
          clear hk hD hE
          obtain rfl := hP
          go_wp2_with fail
          all_goals first | exact hP | rfl
        case hst => exact fun h h' e => rfl
      apply And.intro
      · apply obm_want
        case hg => rfl
        case hj => rfl
        case hv => exact fun _ => rfl
        case hop =>
          intro ax wx h S hD hE hP hk K hK
          have e71 := hk.see 71 rfl rfl
          have e72 := hk.see 72 rfl rfl
          clear hk hD hE
          obtain rfl := hP
          go_wp2_with fail
          all_goals first | exact hP | rfl
        case hst => exact fun h h' e => rfl
      apply And.intro
      · apply obm_want
        case hg => rfl
        case hj => rfl
        case hv => exact fun _ => rfl
        case hop =>
          intro ax wx h S hD hE hP hk K hK
          have e73 := hk.see 73 rfl rfl
          clear hk hD hE
          obtain rfl := hP
          go_wp2_with fail
          all_goals first | exact hP | rfl
        case hst => exact fun h h' e => rfl
      apply And.intro
      · apply obm_want
        case hg => rfl
        case hj => rfl
        case hv => exact fun _ => rfl
        case hop =>
          intro ax wx h S hD hE hP hk K hK
          have e70 := hk.see 70 rfl rfl
          have e74 := hk.see 74 rfl rfl
          clear hk hD hE
          obtain rfl := hP
          go_wp2_with fail
          all_goals first | exact hP | rfl
        case hst => exact fun h h' e => rfl
      apply And.intro
      · apply obm_quiet
        case hg => rfl
        case hop =>
          intro ax wx h S hD hE hP hk K hK
          have e69 := hk.see 69 rfl rfl
          have e75 := hk.see 75 rfl rfl
          clear hk hD hE
          obtain rfl := hP
          go_wp2_with fail
          all_goals first | exact hP | rfl
        case hst => exact fun h h' e => rfl
      exact trivial
    intro w' a' h S hall hP HF
    obtain rfl := hP
    have HF2 := HF.keep [4, 10, 76]
    simp only [pick, look, laid5] at HF2
    exact HX.out _ HF2
  obtain rfl := Decidable.not_not.1 hne
  clear hne
  by_cases hne : ¬ (tt = yt)
  · have g1 : ((str tt).toList == (str yt).toList) = false := by rw [str_toList, str_toList]; simp [hne]
    have g2 : ((str tt).toList != (str yt).toList) = true := by rw [bne, g1]; rfl
    have HX := Lib.hid (HNO.out (fun h => hne (by cases h; rfl)))
    clear hne
    refine region_in HW (by kernel_rfl) hL (by kernel_rfl) ?_
    apply sl_any6 (N := 0) [some 65, some 66, some 67, some 68, some 69, some 70, some 71, some 72, some 73, some 74, some 75, some 76] [.quiet [] [], .quiet [] [], .quiet [] [], .quiet [] [], .quiet [] [], .quiet [] [], .quiet [] [], .quiet [] [], .quiet [] [], .quiet [] [], .quiet [] [], .quiet [] []] (fun _ _ w => w = W.drew) [_, _, _, _, _, _, _, _, _, _, _, _] HF
    case hm => kernel_rfl
    case hok => kernel_rfl
    case hfl => rfl
    case h0 => exact (fun _ => rfl)
    case hobs =>
      apply And.intro
      · apply obm_quiet
        case hg => rfl
        case hop =>
          intro ax wx h S hD hE hP hk K hK
          have e10 := hk.see 10 rfl rfl
          clear hk hD hE
          obtain rfl := hP
          go_wp2_with fail
          all_goals first | exact hP | rfl
        case hst => exact fun h h' e => rfl
      apply And.intro
      · apply obm_quiet
        case hg => rfl
        case hop =>
          intro ax wx h S hD hE hP hk K hK
          have e5 := hk.see 5 rfl rfl
          clear hk hD hE
          obtain rfl := hP
          go_wp2_with fail
          all_goals first | exact hP | rfl
        case hst => exact fun h h' e => rfl
      apply And.intro
      · apply obm_quiet
        case hg => rfl
        case hop =>
          intro ax wx h S hD hE hP hk K hK
          have e66 := hk.see 66 rfl rfl
          clear hk hD hE
          obtain rfl := hP
          go_wp2_with fail
          all_goals first | exact hP | rfl
        case hst => exact fun h h' e => rfl
      apply And.intro
      · apply obm_quiet
        case hg => rfl
        case hop =>
          intro ax wx h S hD hE hP hk K hK
          have e65 := hk.see 65 rfl rfl
          have e67 := hk.see 67 rfl rfl
          clear hk hD hE
          obtain rfl := hP
          go_wp2_with fail
          all_goals first | exact hP | rfl
        case hst => exact fun h h' e => rfl
      apply And.intro
      · apply obm_quiet
        case hg => rfl
        case hop =>
          intro ax wx h S hD hE hP hk K hK
          have e68 := hk.see 68 rfl rfl
          clear hk hD hE
          go_wp2_with fail
          all_goals first | exact hP | rfl
        case hst => exact fun h h' e => rfl
      apply And.intro
      · apply obm_want
        case hg => rfl
        case hj => rfl
        case hv => exact fun _ => rfl
        case hop =>
          intro ax wx h S hD hE hP hk K hK
          have e11 := hk.see 11 rfl rfl
          clear hk hD hE
          obtain rfl := hP
          go_wp2_with fail
          all_goals first | exact hP | rfl
        case hst => exact fun h h' e => rfl
      apply And.intro
      · apply obm_want
        case hg => rfl
        case hj => rfl
        case hv => exact fun _ => rfl
        case hop =>
          intro ax wx h S hD hE hP hk K hK
          have e5 := hk.see 5 rfl rfl
          clear hk hD hE
          obtain rfl := hP
          go_wp2_with fail
          all_goals first | exact hP | rfl
        case hst => exact fun h h' e => rfl
      apply And.intro
      · apply obm_want
        case hg => rfl
        case hj => rfl
        case hv => exact fun _ => rfl
        case hop =>
          intro ax wx h S hD hE hP hk K hK
          have e10 := hk.see 10 rfl rfl
          clear hk hD hE
          obtain rfl := hP
          go_wp2_with fail
          all_goals first | exact hP | rfl
        case hst => exact fun h h' e => rfl
      apply And.intro
      · apply obm_want
        case hg => rfl
        case hj => rfl
        case hv => exact fun _ => rfl
        case hop =>
          intro ax wx h S hD hE hP hk K hK
          have e71 := hk.see 71 rfl rfl
          have e72 := hk.see 72 rfl rfl
          clear hk hD hE
          obtain rfl := hP
          go_wp2_with fail
          all_goals first | exact hP | rfl
        case hst => exact fun h h' e => rfl
      apply And.intro
      · apply obm_want
        case hg => rfl
        case hj => rfl
        case hv => exact fun _ => rfl
        case hop =>
          intro ax wx h S hD hE hP hk K hK
          have e73 := hk.see 73 rfl rfl
          clear hk hD hE
          obtain rfl := hP
          go_wp2_with fail
          all_goals first | exact hP | rfl
        case hst => exact fun h h' e => rfl
      apply And.intro
      · apply obm_want
        case hg => rfl
        case hj => rfl
        case hv => exact fun _ => rfl
        case hop =>
          intro ax wx h S hD hE hP hk K hK
          have e70 := hk.see 70 rfl rfl
          have e74 := hk.see 74 rfl rfl
          clear hk hD hE
          obtain rfl := hP
          go_wp2_with fail
          all_goals first | exact hP | rfl
        case hst => exact fun h h' e => rfl
      apply And.intro
      · apply obm_quiet
        case hg => rfl
        case hop =>
          intro ax wx h S hD hE hP hk K hK
          have e69 := hk.see 69 rfl rfl
          have e75 := hk.see 75 rfl rfl
          clear hk hD hE
          obtain rfl := hP
          go_wp2_with fail
          all_goals first | exact hP | rfl
        case hst => exact fun h h' e => rfl
      exact trivial
    intro w' a' h S hall hP HF
    obtain rfl := hP
    have HF2 := HF.keep [4, 10, 76]
    simp only [pick, look, laid5] at HF2
    exact HX.out _ HF2
  obtain rfl := Decidable.not_not.1 hne
  clear hne
  by_cases hne : ¬ (tn = yn)
  · have g1 : ((tn : Int) == (yn : Int)) = false := by simp; omega
    have g2 : ((tn : Int) != (yn : Int)) = true := by rw [bne, g1]; rfl
    have HX := Lib.hid (HNO.out (fun h => hne (by cases h; rfl)))
    clear hne
    refine region_in HW (by kernel_rfl) hL (by kernel_rfl) ?_
    apply sl_any6 (N := 0) [some 65, some 66, some 67, some 68, some 69, some 70, some 71, some 72, some 73, some 74, some 75, some 76] [.quiet [] [], .quiet [] [], .quiet [] [], .quiet [] [], .quiet [] [], .quiet [] [], .quiet [] [], .quiet [] [], .quiet [] [], .quiet [] [], .quiet [] [], .quiet [] []] (fun _ _ w => w = W.drew) [_, _, _, _, _, _, _, _, _, _, _, _] HF
    case hm => kernel_rfl
    case hok => kernel_rfl
    case hfl => rfl
    case h0 => exact (fun _ => rfl)
    case hobs =>
      apply And.intro
      · apply obm_quiet
        case hg => rfl
        case hop =>
          intro ax wx h S hD hE hP hk K hK
          have e10 := hk.see 10 rfl rfl
          clear hk hD hE
          obtain rfl := hP
          go_wp2_with fail
          all_goals first | exact hP | rfl
        case hst => exact fun h h' e => rfl
      apply And.intro
      · apply obm_quiet
        case hg => rfl
        case hop =>
          intro ax wx h S hD hE hP hk K hK
          have e5 := hk.see 5 rfl rfl
          clear hk hD hE
          obtain rfl := hP
          go_wp2_with fail
          all_goals first | exact hP | rfl
        case hst => exact fun h h' e => rfl
      apply And.intro
      · apply obm_quiet
        case hg => rfl
        case hop =>
          intro ax wx h S hD hE hP hk K hK
          have e66 := hk.see 66 rfl rfl
          clear hk hD hE
          obtain rfl := hP
          go_wp2_with fail
          all_goals first | exact hP | rfl
        case hst => exact fun h h' e => rfl
      apply And.intro
      · apply obm_quiet
        case hg => rfl
        case hop =>
          intro ax wx h S hD hE hP hk K hK
          have e65 := hk.see 65 rfl rfl
          have e67 := hk.see 67 rfl rfl
          clear hk hD hE
          obtain rfl := hP
          go_wp2_with fail
          all_goals first | exact hP | rfl
        case hst => exact fun h h' e => rfl
      apply And.intro
      · apply obm_quiet
        case hg => rfl
        case hop =>
          intro ax wx h S hD hE hP hk K hK
          have e68 := hk.see 68 rfl rfl
          clear hk hD hE
          go_wp2_with fail
          all_goals first | exact hP | rfl
        case hst => exact fun h h' e => rfl
      apply And.intro
      · apply obm_want
        case hg => rfl
        case hj => rfl
        case hv => exact fun _ => rfl
        case hop =>
          intro ax wx h S hD hE hP hk K hK
          have e11 := hk.see 11 rfl rfl
          clear hk hD hE
          obtain rfl := hP
          go_wp2_with fail
          all_goals first | exact hP | rfl
        case hst => exact fun h h' e => rfl
      apply And.intro
      · apply obm_want
        case hg => rfl
        case hj => rfl
        case hv => exact fun _ => rfl
        case hop =>
          intro ax wx h S hD hE hP hk K hK
          have e5 := hk.see 5 rfl rfl
          clear hk hD hE
          obtain rfl := hP
          go_wp2_with fail
          all_goals first | exact hP | rfl
        case hst => exact fun h h' e => rfl
      apply And.intro
      · apply obm_want
        case hg => rfl
        case hj => rfl
        case hv => exact fun _ => rfl
        case hop =>
          intro ax wx h S hD hE hP hk K hK
          have e10 := hk.see 10 rfl rfl
          clear hk hD hE
          obtain rfl := hP
          go_wp2_with fail
          all_goals first | exact hP | rfl
        case hst => exact fun h h' e => rfl
      apply And.intro
      · apply obm_want
        case hg => rfl
        case hj => rfl
        case hv => exact fun _ => rfl
        case hop =>
          intro ax wx h S hD hE hP hk K hK
          have e71 := hk.see 71 rfl rfl
          have e72 := hk.see 72 rfl rfl
          clear hk hD hE
          obtain rfl := hP
          go_wp2_with fail
          all_goals first | exact hP | rfl
        case hst => exact fun h h' e => rfl
      apply And.intro
      · apply obm_want
        case hg => rfl
        case hj => rfl
        case hv => exact fun _ => rfl
        case hop =>
          intro ax wx h S hD hE hP hk K hK
          have e73 := hk.see 73 rfl rfl
          clear hk hD hE
          obtain rfl := hP
          go_wp2_with fail
          all_goals first | exact hP | rfl
        case hst => exact fun h h' e => rfl
      apply And.intro
      · apply obm_want
        case hg => rfl
        case hj => rfl
        case hv => exact fun _ => rfl
        case hop =>
          intro ax wx h S hD hE hP hk K hK
          have e70 := hk.see 70 rfl rfl
          have e74 := hk.see 74 rfl rfl
          clear hk hD hE
          obtain rfl := hP
          go_wp2_with fail
          all_goals first | exact hP | rfl
        case hst => exact fun h h' e => rfl
      apply And.intro
      · apply obm_quiet
        case hg => rfl
        case hop =>
          intro ax wx h S hD hE hP hk K hK
          have e69 := hk.see 69 rfl rfl
          have e75 := hk.see 75 rfl rfl
          clear hk hD hE
          obtain rfl := hP
          go_wp2_with fail
          all_goals first | exact hP | rfl
        case hst => exact fun h h' e => rfl
      exact trivial
    intro w' a' h S hall hP HF
    obtain rfl := hP
    have HF2 := HF.keep [4, 10, 76]
    simp only [pick, look, laid5] at HF2
    exact HX.out _ HF2
  obtain rfl := Decidable.not_not.1 hne
  clear hne
  by_cases hne : ¬ (tp = yp)
  · have g1 : ((tp : Int) == (yp : Int)) = false := by simp; omega
    have g2 : ((tp : Int) != (yp : Int)) = true := by rw [bne, g1]; rfl
    have HX := Lib.hid (HNO.out (fun h => hne (by cases h; rfl)))
    clear hne
    refine region_in HW (by kernel_rfl) hL (by kernel_rfl) ?_
    apply sl_any6 (N := 0) [some 65, some 66, some 67, some 68, some 69, some 70, some 71, some 72, some 73, some 74, some 75, some 76] [.quiet [] [], .quiet [] [], .quiet [] [], .quiet [] [], .quiet [] [], .quiet [] [], .quiet [] [], .quiet [] [], .quiet [] [], .quiet [] [], .quiet [] [], .quiet [] []] (fun _ _ w => w = W.drew) [_, _, _, _, _, _, _, _, _, _, _, _] HF
    case hm => kernel_rfl
    case hok => kernel_rfl
    case hfl => rfl
    case h0 => exact (fun _ => rfl)
    case hobs =>
      apply And.intro
      · apply obm_quiet
        case hg => rfl
        case hop =>
          intro ax wx h S hD hE hP hk K hK
          have e10 := hk.see 10 rfl rfl
          clear hk hD hE
          obtain rfl := hP
          go_wp2_with fail
          all_goals first | exact hP | rfl
        case hst => exact fun h h' e => rfl
      apply And.intro
      · apply obm_quiet
        case hg => rfl
        case hop =>
          intro ax wx h S hD hE hP hk K hK
          have e5 := hk.see 5 rfl rfl
          clear hk hD hE
          obtain rfl := hP
          go_wp2_with fail
          all_goals first | exact hP | rfl
        case hst => exact fun h h' e => rfl
      apply And.intro
      · apply obm_quiet
        case hg => rfl
        case hop =>
          intro ax wx h S hD hE hP hk K hK
          have e66 := hk.see 66 rfl rfl
          clear hk hD hE
          obtain rfl := hP
          go_wp2_with fail
          all_goals first | exact hP | rfl
        case hst => exact fun h h' e => rfl
      apply And.intro
      · apply obm_quiet
        case hg => rfl
        case hop =>
          intro ax wx h S hD hE hP hk K hK
          have e65 := hk.see 65 rfl rfl
          have e67 := hk.see 67 rfl rfl
          clear hk hD hE
          obtain rfl := hP
          go_wp2_with fail
          all_goals first | exact hP | rfl
        case hst => exact fun h h' e => rfl
      apply And.intro
      · apply obm_quiet
        case hg => rfl
        case hop =>
          intro ax wx h S hD hE hP hk K hK
          have e68 := hk.see 68 rfl rfl
          clear hk hD hE
          go_wp2_with fail
          all_goals first | exact hP | rfl
        case hst => exact fun h h' e => rfl
      apply And.intro
      · apply obm_want
        case hg => rfl
        case hj => rfl
        case hv => exact fun _ => rfl
        case hop =>
          intro ax wx h S hD hE hP hk K hK
          have e11 := hk.see 11 rfl rfl
          clear hk hD hE
          obtain rfl := hP
          go_wp2_with fail
          all_goals first | exact hP | rfl
        case hst => exact fun h h' e => rfl
      apply And.intro
      · apply obm_want
        case hg => rfl
        case hj => rfl
        case hv => exact fun _ => rfl
        case hop =>
          intro ax wx h S hD hE hP hk K hK
          have e5 := hk.see 5 rfl rfl
          clear hk hD hE
          obtain rfl := hP
          go_wp2_with fail
          all_goals first | exact hP | rfl
        case hst => exact fun h h' e => rfl
      apply And.intro
      · apply obm_want
        case hg => rfl
        case hj => rfl
        case hv => exact fun _ => rfl
        case hop =>
          intro ax wx h S hD hE hP hk K hK
          have e10 := hk.see 10 rfl rfl
          clear hk hD hE
          obtain rfl := hP
          go_wp2_with fail
          all_goals first | exact hP | rfl
        case hst => exact fun h h' e => rfl
      apply And.intro
      · apply obm_want
        case hg => rfl
        case hj => rfl
        case hv => exact fun _ => rfl
        case hop =>
          intro ax wx h S hD hE hP hk K hK
          have e71 := hk.see 71 rfl rfl
          have e72 := hk.see 72 rfl rfl
          clear hk hD hE
          obtain rfl := hP
          go_wp2_with fail
          all_goals first | exact hP | rfl
        case hst => exact fun h h' e => rfl
      apply And.intro
      · apply obm_want
        case hg => rfl
        case hj => rfl
        case hv => exact fun _ => rfl
        case hop =>
          intro ax wx h S hD hE hP hk K hK
          have e73 := hk.see 73 rfl rfl
          clear hk hD hE
          obtain rfl := hP
          go_wp2_with fail
          all_goals first | exact hP | rfl
        case hst => exact fun h h' e => rfl
      apply And.intro
      · apply obm_want
        case hg => rfl
        case hj => rfl
        case hv => exact fun _ => rfl
        case hop =>
          intro ax wx h S hD hE hP hk K hK
          have e70 := hk.see 70 rfl rfl
          have e74 := hk.see 74 rfl rfl
          clear hk hD hE
          obtain rfl := hP
          go_wp2_with fail
          all_goals first | exact hP | rfl
        case hst => exact fun h h' e => rfl
      apply And.intro
      · apply obm_quiet
        case hg => rfl
        case hop =>
          intro ax wx h S hD hE hP hk K hK
          have e69 := hk.see 69 rfl rfl
          have e75 := hk.see 75 rfl rfl
          clear hk hD hE
          obtain rfl := hP
          go_wp2_with fail
          all_goals first | exact hP | rfl
        case hst => exact fun h h' e => rfl
      exact trivial
    intro w' a' h S hall hP HF
    obtain rfl := hP
    have HF2 := HF.keep [4, 10, 76]
    simp only [pick, look, laid5] at HF2
    exact HX.out _ HF2
  obtain rfl := Decidable.not_not.1 hne
  clear hne
  have HX := Lib.hid (HYES.out rfl)
  refine region_in HW (by kernel_rfl) hL (by kernel_rfl) ?_
  apply sl_any6 (N := 0) [some 65, some 66, some 67, some 68, some 69, some 70, some 71, some 72, some 73, some 74, some 75, some 76] [.quiet [] [], .quiet [] [], .quiet [] [], .quiet [] [], .quiet [] [], .quiet [] [], .quiet [] [], .quiet [] [], .quiet [] [], .quiet [] [], .quiet [] [], .quiet [] []] (fun _ _ w => w = W.drew) [_, _, _, _, _, _, _, _, _, _, _, _] HF
  case hm => kernel_rfl
  case hok => kernel_rfl
  case hfl => rfl
  case h0 => exact (fun _ => rfl)
  case hobs =>
    apply And.intro
    · apply obm_quiet
      case hg => rfl
      case hop =>
        intro ax wx h S hD hE hP hk K hK
        have e10 := hk.see 10 rfl rfl
        clear hk hD hE
        obtain rfl := hP
        go_wp2_with fail
        all_goals first | exact hP | rfl
      case hst => exact fun h h' e => rfl
    apply And.intro
    · apply obm_quiet
      case hg => rfl
      case hop =>
        intro ax wx h S hD hE hP hk K hK
        have e5 := hk.see 5 rfl rfl
        clear hk hD hE
        obtain rfl := hP
        go_wp2_with fail
        all_goals first | exact hP | rfl
      case hst => exact fun h h' e => rfl
    apply And.intro
    · apply obm_quiet
      case hg => rfl
      case hop =>
        intro ax wx h S hD hE hP hk K hK
        have e66 := hk.see 66 rfl rfl
        clear hk hD hE
        obtain rfl := hP
        go_wp2_with fail
        all_goals first | exact hP | rfl
      case hst => exact fun h h' e => rfl
    apply And.intro
    · apply obm_quiet
      case hg => rfl
      case hop =>
        intro ax wx h S hD hE hP hk K hK
        have e65 := hk.see 65 rfl rfl
        have e67 := hk.see 67 rfl rfl
        clear hk hD hE
        obtain rfl := hP
        go_wp2_with fail
        all_goals first | exact hP | rfl
      case hst => exact fun h h' e => rfl
    apply And.intro
    · apply obm_quiet
      case hg => rfl
      case hop =>
        intro ax wx h S hD hE hP hk K hK
        have e68 := hk.see 68 rfl rfl
        clear hk hD hE
        go_wp2_with fail
        all_goals first | exact hP | rfl
      case hst => exact fun h h' e => rfl
    apply And.intro
    · apply obm_want
      case hg => rfl
      case hj => rfl
      case hv => exact fun _ => rfl
      case hop =>
        intro ax wx h S hD hE hP hk K hK
        have e11 := hk.see 11 rfl rfl
        clear hk hD hE
        obtain rfl := hP
        go_wp2_with fail
        all_goals first | exact hP | rfl
      case hst => exact fun h h' e => rfl
    apply And.intro
    · apply obm_want
      case hg => rfl
      case hj => rfl
      case hv => exact fun _ => rfl
      case hop =>
        intro ax wx h S hD hE hP hk K hK
        have e5 := hk.see 5 rfl rfl
        clear hk hD hE
        obtain rfl := hP
        go_wp2_with fail
        all_goals first | exact hP | rfl
      case hst => exact fun h h' e => rfl
    apply And.intro
    · apply obm_want
      case hg => rfl
      case hj => rfl
      case hv => exact fun _ => rfl
      case hop =>
        intro ax wx h S hD hE hP hk K hK
        have e10 := hk.see 10 rfl rfl
        clear hk hD hE
        obtain rfl := hP
        go_wp2_with fail
        all_goals first | exact hP | rfl
      case hst => exact fun h h' e => rfl
    apply And.intro
    · apply obm_want
      case hg => rfl
      case hj => rfl
      case hv => exact fun _ => rfl
      case hop =>
        intro ax wx h S hD hE hP hk K hK
        have e71 := hk.see 71 rfl rfl
        have e72 := hk.see 72 rfl rfl
        clear hk hD hE
        obtain rfl := hP
        go_wp2_with fail
        all_goals first | exact hP | rfl
      case hst => exact fun h h' e => rfl
    apply And.intro
    · apply obm_want
      case hg => rfl
      case hj => rfl
      case hv => exact fun _ => rfl
      case hop =>
        intro ax wx h S hD hE hP hk K hK
        have e73 := hk.see 73 rfl rfl
        clear hk hD hE
        obtain rfl := hP
        go_wp2_with fail
        all_goals first | exact hP | rfl
      case hst => exact fun h h' e => rfl
    apply And.intro
    · apply obm_want
      case hg => rfl
      case hj => rfl
      case hv => exact fun _ => rfl
      case hop =>
        intro ax wx h S hD hE hP hk K hK
        have e70 := hk.see 70 rfl rfl
        have e74 := hk.see 74 rfl rfl
        clear hk hD hE
        obtain rfl := hP
        go_wp2_with fail
        all_goals first | exact hP | rfl
      case hst => exact fun h h' e => rfl
    apply And.intro
    · apply obm_quiet
      case hg => rfl
      case hop =>
        intro ax wx h S hD hE hP hk K hK
        have e69 := hk.see 69 rfl rfl
        have e75 := hk.see 75 rfl rfl
        clear hk hD hE
        obtain rfl := hP
        go_wp2_with fail
        all_goals first | exact hP | rfl
      case hst => exact fun h h' e => rfl
    exact trivial
  intro w' a' h S hall hP HF
  obtain rfl := hP
  have HF2 := HF.keep [4, 10, 76]
  simp only [pick, look, laid5] at HF2
  exact HX.out _ HF2

set_option maxHeartbeats 1600000 in
set_option maxRecDepth 100000 in
theorem ss_body {F : Fence} {m : Nat} (HW : Wd F) {l : List UInt8} {most : Int} {g3 g4 g5 gN Bx B0 c : Nat} {A : Option Addr} {w0 W : World} {G : Nat → Prop} {a : Act} {pre : List (Tok × Nat)} {x : Tok × Nat} (hm0 : 0 ≤ most) (hm1 : most ≤ 255)
    (hgN : w0.heap.size ≤ gN) (hg4 : w0.heap.size ≤ g4) (hgB : gN < B0) (hG : G gN) (hsl : (strW l 0).length ≤ 100000)
    (HF : Sl 86 [(0, .string (str l)), (3, .pointer (some ⟨g3, 0, none⟩)), (4, .pointer (some ⟨g4, 0, none⟩)), (5, .pointer (some ⟨g5, 0, none⟩)), (10, .pointer (some ⟨gN, 0, none⟩)), (11, .pointer (some ⟨Bx, 0, none⟩))] a)
    (hC : SsC l most g3 g4 g5 gN A c pre.length W) (hRd : Rd (fun b => b ≠ g4 ∧ b ≠ gN) W A (tkCells (strW l 0))) (hB : Below w0.heap.size w0 W) (hpm : pre <+: strW l 0 ∧ (pre.length : Int) ≤ most ∧ B0 ≤ W.heap.size)
    (hBx : B0 ≤ Bx) (hbx : Blk W Bx 30 #[.int .i64 x.1.kind, .string (str x.1.text), .int .i64 x.1.n, .int .i64 x.2]) (hlen : pre.length < (strW l 0).length) :
    (rfBody (part [1, 1, 1, 1, 1, 0, 1, 0] ssBody)).wpIn F m Tryz.prog (ownPostG B0 (KpC G) (SsJ B0 w0 l most g3 g4 g5 gN A c) (SsX w0 l most g3 g4 g5 gN A c) (pre ++ [x]) W) a W := by
  have HC := Lib.hid hC
  have HRd := Lib.hid hRd
  have HB := Lib.hid hB
  have HBX := Lib.hid hbx
  have HPM := Lib.hid hpm
  have c3 := hC.b3.cell 0
  have cN := hC.bN.cell 0
  have hle := hpm.2.1
  simp only [List.getElem?_toArray, List.getElem?_cons_zero] at c3 cN
  obtain ⟨n, hn⟩ : ∃ n, pre.length = n := ⟨_, rfl⟩
  rw [hn] at cN hlen hle
  have HN := Lib.hid hn
  clear hC hRd hB hbx hpm hn
  conv => arg 4; whnf
  refine wpIn_block (wpIn_seq (wpIn_seq (wpIn_region_lit ?_)))
  by_cases hge : most ≤ (n : Int)
  · have hd : decide (most ≤ (n : Int)) = true := by simpa using hge
    refine slIn_op HW HF rfl rfl rfl (by decide) ?_; intro K hK; have e10 := HF.see 10 rfl; go_wp2_with fail; clear e10 HF; intro _ HF
    refine slIn_op HW HF rfl rfl rfl (by decide) ?_; intro K hK; have e3 := HF.see 3 rfl; go_wp2_with fail; clear e3 HF; intro _ HF
    refine slIn_op HW HF rfl rfl rfl (by decide) ?_; intro K hK; have e62 := HF.see 62 rfl; go_wp2_with fail; clear e62 HF; intro _ HF
    refine slIn_op HW HF rfl rfl rfl (by decide) ?_; intro K hK; have e61 := HF.see 61 rfl; have e63 := HF.see 63 rfl; go_wp2_with fail; clear e61 e63 HF; intro _ HF
    refine slIn_nil (wpIn_cond_true (HF.at 64 rfl) (wpIn_exit ?_))
    dsimp only [Exit.then]
    refine ⟨KeepsFrom.refl _ _, .inl ⟨rfl, n, by simp [HN.out], by omega, ?_, HB.out⟩⟩
    rw [← HN.out]
    exact HC.out
  · have hd : decide (most ≤ (n : Int)) = false := by simpa using hge
    refine slIn_op HW HF rfl rfl rfl (by decide) ?_; intro K hK; have e10 := HF.see 10 rfl; go_wp2_with fail; clear e10 HF; intro _ HF
    refine slIn_op HW HF rfl rfl rfl (by decide) ?_; intro K hK; have e3 := HF.see 3 rfl; go_wp2_with fail; clear e3 HF; intro _ HF
    refine slIn_op HW HF rfl rfl rfl (by decide) ?_; intro K hK; have e62 := HF.see 62 rfl; go_wp2_with fail; clear e62 HF; intro _ HF
    refine slIn_op HW HF rfl rfl rfl (by decide) ?_; intro K hK; have e61 := HF.see 61 rfl; have e63 := HF.see 63 rfl; go_wp2_with fail; clear e61 e63 HF; intro _ HF
    refine slIn_nil (wpIn_cond_false (HF.at 64 rfl) (wpIn_skip (slIn_then (wpIn_seq (wpIn_seq ?_)))))
    obtain ⟨y, hy⟩ : ∃ y, (strW l 0)[n]? = some y := ⟨_, List.getElem?_eq_getElem hlen⟩
    obtain ⟨ad, hA, ⟨hs4, hsN⟩, hb, q0, q1, q2, q3⟩ := cells4 HRd.out hy
    have HF2 := HF.keep [4, 5, 10, 11]
    simp only [pick, look] at HF2
    have hb5 := HC.out.b5
    rw [hA] at hb5
    have hbN := HC.out.bN
    rw [HN.out] at hbN
    have hpre : pre = (strW l 0).take n := by
      have := List.prefix_iff_eq_take.1 HPM.out.1
      rw [HN.out] at this
      exact this
    refine ss_cmp HW ?hL HF2 HBX.out hb5 hbN hlen hsl q0 q1 q2 q3 ?hY ?hN
    case hL =>
      rintro ⟨_, _, h⟩
      exact h
    case hY =>
      intro hxy a2 HF
      have hpx : pre ++ [x] <+: strW l 0 := by
        rw [hpre, hxy, show (strW l 0).take n ++ [y] = (strW l 0).take (n + 1) by rw [List.take_add_one, hy]; rfl]
        exact List.take_prefix _ _
      refine slIn_then (wpIn_cond_false (HF.at 76 rfl) (wpIn_skip (slIn_then (wpIn_region_lit ?_))))
      have HM1 := Lib.hid (Mod.refl Nil W).drew
      have HK1 := Lib.hid (KeepsOthers.drew W)
      have hBN := HC.out.bN.keep HM1.out id
      have h3 := Lib.hid (HC.out.b3.keep HM1.out id)
      have h4 := Lib.hid (HC.out.b4.keep HM1.out id)
      have h5 := Lib.hid (HC.out.b5.keep HM1.out id)
      have hRD := Lib.hid (HRd.out.keep0 HM1.out)
      have hBW := Lib.hid HB.out.drew
      rw [HN.out] at hBN
      have HBN := Lib.hid hBN
      generalize W.drew = W1 at HM1 HK1 hBN h3 h4 h5 hRD hBW HBN ⊢
      have cN := hBN.cell 0
      have fN := hBN.frozen 0
      simp only [List.getElem?_toArray, List.getElem?_cons_zero] at cN
      clear hBN hpre hxy hy hb q0 q1 q2 q3 hb5 hbN
      refine slIn_op HW HF rfl rfl rfl (by decide) ?_; intro K hK; have e10 := HF.see 10 rfl; go_wp2_with fail; clear e10 HF; intro _ HF
      refine slIn_op HW HF rfl rfl rfl (by decide) ?_; intro K hK; have e77 := HF.see 77 rfl; go_wp2_with fail; clear e77 HF; intro _ HF
      refine slIn_op0 HW HF rfl rfl rfl ?_; intro K hK; have e10 := HF.see 10 rfl; have e78 := HF.see 78 rfl; go_wp2_with fail; clear e10 e78 HF; intro _ HF
      have hb' : Blk (W1.setCell ⟨gN, 0, none⟩ (.int .i64 ((n : Int) + 1))) gN 3 #[.int .i64 ((n : Int) + 1)] := by
        have := HBN.out.set_ 0 (.int .i64 ((n : Int) + 1))
        simpa using this
      have hmg : Mod (fun k => k = gN) W1 (W1.setCell ⟨gN, 0, none⟩ (.int .i64 ((n : Int) + 1))) := Mod.set (F := fun k => k = gN) (Mod.refl _ W1) (p := ⟨gN, 0, none⟩) (.inl rfl) _
      have n3 : g3 ≠ gN := h3.out.ne_ HBN.out (by decide)
      have n4 : g4 ≠ gN := h4.out.ne_ HBN.out (by decide)
      have n5 : g5 ≠ gN := h5.out.ne_ HBN.out (by decide)
      have hl1 : (pre ++ [x]).length = n + 1 := by simp [HN.out]
      show KeepsFrom _ _ _ ∧ _ ∧ _
      refine ⟨(HK1.out.trans (KeepsOthers.setCell _ _ _)).from _, kpc_trans (kpc_mod HM1.out fun _ h => h.elim) (kpc_mod hmg fun k hk => by rw [hk]; exact hG), ⟨?_, hRD.out.keep hmg (fun b hb h => hb.2 h), hBW.out.setCell (p := ⟨gN, 0, none⟩) hgN _⟩, hpx, ?_, ?_⟩
      · rw [hl1]
        exact ⟨h3.out.keep hmg n3, h4.out.keep hmg n4, h5.out.keep hmg n5, hb'⟩
      · rw [hl1]
        omega
      · exact Nat.le_trans HPM.out.2.2 (Nat.le_trans HM1.out.size hmg.size)
    case hN =>
      intro hxy a2 HF
      have hpx : ¬ pre ++ [x] <+: strW l 0 := by
        rintro ⟨t, ht⟩
        have h1 : (strW l 0)[n]? = some x := by
          rw [← ht, ← HN.out]
          simp
        rw [hy] at h1
        exact hxy (Option.some.inj h1).symm
      refine slIn_then (wpIn_cond_true (HF.at 76 rfl) (wpIn_seq (wpIn_region_lit ?_)))
      have HM1 := Lib.hid (Mod.refl Nil W).drew
      have HK1 := Lib.hid (KeepsOthers.drew W)
      have hB4 := HC.out.b4.keep HM1.out id
      generalize W.drew = W1 at HM1 HK1 hB4 ⊢
      have c4 := hB4.cell 0
      have f4 := hB4.frozen 0
      simp only [List.getElem?_toArray, List.getElem?_cons_zero] at c4
      clear hB4 hpre hxy hy hb q0 q1 q2 q3 hb5 hbN
      refine slIn_op0 HW HF rfl rfl rfl ?_; intro K hK; have e4 := HF.see 4 rfl; go_wp2_with fail; clear e4 HF; intro _ HF
      refine slIn_nil (wpIn_ret ?_)
      show KeepsFrom _ _ _ ∧ _
      exact ⟨(HK1.out.trans (KeepsOthers.setCell _ _ _)).from _, .inr ⟨rfl, hpx⟩⟩

set_option maxHeartbeats 3200000 in
set_option maxRecDepth 100000 in
theorem ss_rest {l : List UInt8} {most : Int} {g3 g4 g5 : Nat} {A : Option Addr} {c : Nat} {w0 w : World} {a : Act} (hl : l.length ≤ 500) (hm0 : 0 ≤ most) (hm1 : most ≤ 255)
    (HF : Sl 86 [(0, .string (str l)), (3, .pointer (some ⟨g3, 0, none⟩)), (4, .pointer (some ⟨g4, 0, none⟩)), (5, .pointer (some ⟨g5, 0, none⟩))] a) (hT : SsT w0 w l most g3 g4 g5 A c) (hsl : (strW l 0).length ≤ 100000) :
    (part [1, 1, 1, 1] ssBody).wp Tryz.prog (bodyPostM Fence.wide 9 Tryz.prog Tryz.f3 (SsR w0)) a w := by
  have HT := Lib.hid hT
  clear hT
  conv => arg 2; whnf
  refine wp_seq (wp_region_lit ?_)
  refine sl_op HF rfl rfl (by decide) ?_; intro K hK; go_wp2_with fail; clear HF; intro _ HF
  refine sl_op0 HF rfl rfl ?_; intro K hK; have e10 := HF.see 10 rfl; go_wp2_with fail; clear e10 HF; intro _ HF
  have hbN : Blk (w.alloc (.cells #[.int .i64 0] 3)) w.heap.size 3 #[.int .i64 0] := Blk.new _ _ _
  have hm1' := (Mod.refl Nil w).alloc (.cells #[.int .i64 0] 3)
  refine sl_nil (wp_seq (wp_seq (wp_region_lit ?_)))
  change wpList _ _ _ _ _ (w.alloc (.cells #[.int .i64 0] 3))
  have H3 := Lib.hid (HT.out.b3.keep hm1' id)
  have H4 := Lib.hid (HT.out.b4.keep hm1' id)
  have H5 := Lib.hid (HT.out.b5.keep hm1' id)
  have hlt4 : g4 < w.heap.size := HT.out.b4.lt
  have HR := Lib.hid (((HT.out.rd.mono (S' := fun b => b ≠ g4 ∧ b ≠ w.heap.size) (fun b h1 h2 => ⟨h2, by omega⟩))).keep0 hm1')
  have HMM := Lib.hid (HT.out.mod.trans hm1')
  have hgN : w0.heap.size ≤ w.heap.size := HT.out.mod.size
  generalize w.alloc (.cells #[.int .i64 0] 3) = w1 at hbN hm1' H3 H4 H5 HR HMM ⊢
  generalize w.heap.size = gN at hbN HF HR hlt4 hgN
  have HN := Lib.hid hbN
  clear hbN hm1'
  have HS := Lib.hid (stream_any l w1)
  refine sl_move HF rfl rfl (.inl rfl) (by decide) rfl ?_; clear HF; intro _ HF
  refine sl_op HF rfl rfl (by decide) ?_; intro K hK; have e58 := HF.see 58 rfl; go_wp2_with fail
  refine HS.out.mono ?_
  rintro e w2 ⟨rfl, hbs, hm2⟩
  have H32 := Lib.hid (H3.out.keep hm2 id)
  have H42 := Lib.hid (H4.out.keep hm2 id)
  have H52 := Lib.hid (H5.out.keep hm2 id)
  have HN2 := Lib.hid (HN.out.keep hm2 id)
  have HR2 := Lib.hid (HR.out.keep0 hm2)
  have HM2 := Lib.hid (HMM.out.trans hm2)
  have hNw : gN < w1.heap.size := HN.out.lt
  have h4w : g4 < w1.heap.size := H4.out.lt
  have hw12 : w1.heap.size ≤ w2.heap.size := hm2.size
  have h0w1 : w0.heap.size ≤ w1.heap.size := HMM.out.size
  generalize w1.heap.size = Bs at hbs hNw h4w hw12 h0w1 ⊢
  have HBS := Lib.hid hbs
  clear hbs hm2 HS H3 H4 H5 HN HR HMM
  go_wp2_with fail; clear e58 HF; intro _ HF
  have HF2 := HF.keep [0, 3, 4, 5, 10, 59]
  simp only [pick, look] at HF2
  clear HF
  have HF := HF2
  clear HF2
  refine sl_nil (wp_block ((wpIn_wide (n := 9)).1 ?_))
  rename_i a3
  have hC0 : SsC l most g3 g4 g5 gN A c 0 w2 := ⟨H32.out, H42.out, H52.out, HN2.out⟩
  have hbel : Below w0.heap.size w0 w2 := HM2.out.below
  obtain ⟨G, hG⟩ : ∃ G : Nat → Prop, G = fun k => k = gN ∨ k = g4 := ⟨_, rfl⟩
  refine wpIn_rangeFunc_ownH (α := Tok × Nat) rfl (by decide) (gf := 9) (lb := #[.pointer (some ⟨Bs, 0, none⟩)]) (HF.at 59 rfl) trivial (enters_of Tryz.func9 (by kernel_rfl) rfl)
    (encs := encT) (Kp := KpC G) (S := fun xs => xs = strW l 0) (Sp := fun pre => pre <+: strW l 0) (N := (strW l 0).length) (w0 := w2) ?seq (fun h k => kpc_trans h k) (fun W lp o o' hlp ho hoc _ => kpc_put W lp o o' ho hoc) (Below.refl _ _) (fun _ => rfl)
    (SsJ w2.heap.size w0 l most g3 g4 g5 gN A c) (SsX w0 l most g3 g4 g5 gN A c) ?hI ?hIx ?h0 (SsA g3 g4 g5 gN w2.heap.size (str l)) ?hAx ?assign ?body ?done ?stop
  case seq =>
    intro lp J Jx W hW hJ _ hY h0
    refine stream1_in l hl 8 lp Bs G J Jx W hJ (fun g hg => ?_) (fun hg => ?_) ((hW.block Bs HBS.out.lt).trans HBS.out) hY h0
    · have := hW.size
      rw [hG] at hg
      rcases hg with h | h <;> omega
    · rw [hG] at hg
      rcases hg with h | h <;> omega
  case hI =>
    rintro pre W W' row ⟨⟨h1, h2, h3⟩, h4⟩ hg hr
    exact ⟨⟨ssc_own hg hr h1, rd_own hg hr h2, (ownFrom_below (β := Unit) (Nat.le_refl _) (by have := HM2.out.size; omega)) () W W' row h3 hg hr⟩, h4.1, h4.2.1, Nat.le_trans h4.2.2 hg.size⟩
  case hIx =>
    rintro cd pre W W' row (⟨h0, n, h1, h2, h3, h4⟩ | h) hg hr
    · exact .inl ⟨h0, n, h1, h2, ssc_own hg hr h3, (ownFrom_below (β := Unit) (Nat.le_refl _) (by have := HM2.out.size; omega)) () W W' row h4 hg hr⟩
    · exact .inr h
  case h0 => exact ⟨⟨hC0, HR2.out, hbel⟩, List.nil_prefix, hm0, Nat.le_refl _⟩
  case hAx =>
    rintro x a' _ W W' row ⟨Bx, h1, h2, h3⟩ hg hr
    exact ⟨Bx, h1, blk_own hg hr h2, h3⟩
  case assign =>
    rintro lp pre x W K ⟨⟨hC, hRd, hB⟩, hpm⟩ hK
    have HW := Wd.inRound lp
    have HKK := Lib.hid hK
    have HC := Lib.hid hC
    have HRd := Lib.hid hRd
    have HB := Lib.hid hB
    have hWw : w2.heap.size ≤ W.heap.size := hpm.2.2
    obtain ⟨⟨tk, tt, tn⟩, tp⟩ := x
    have HFa : Sl 86 [(60, .agg #[.int .i64 tk, .string (str tt), .int .i64 tn, .int .i64 tp]), (0, .string (str l)), (3, .pointer (some ⟨g3, 0, none⟩)), (4, .pointer (some ⟨g4, 0, none⟩)), (5, .pointer (some ⟨g5, 0, none⟩)), (10, .pointer (some ⟨gN, 0, none⟩))] { tmps := (#[60].zip (encT (⟨tk, tt, tn⟩, tp))).foldl (fun t (p, v) => t.setIfInBounds p v) a3.tmps, defers := [] } := by
      have h1 := (HF.put (d := 60) (by decide) (tokV ⟨tk, tt, tn⟩ tp)).keep [60, 0, 3, 4, 5, 10]
      simp only [pick, look] at h1
      have hd := HF.nd
      refine ⟨?_, rfl, fun t v e => ?_⟩
      · simpa [encT, Act.put] using h1.size
      · have := h1.sees t v e
        simpa [encT, Act.put, tokV, hd] using this
    clear hK hC hRd hB HF
    have HF := HFa
    clear HFa
    generalize ({ tmps := (#[60].zip (encT (⟨tk, tt, tn⟩, tp))).foldl (fun t (p, v) => t.setIfInBounds p v) a3.tmps, defers := [] } : Act) = a4 at HF ⊢
    refine wpIn_region_lit ?_
    have hz : Blk (W.alloc (.cells tok0 30)) W.heap.size 30 tok0 := Blk.new _ _ _
    obtain ⟨hk0, hk1, hk2, hk3, hf0, hf1, hf2, hf3⟩ := tok_facts hz
    unfold tok0 at hk0 hk1 hk2 hk3 hf0 hf1 hf2 hf3
    refine slIn_op HW HF rfl rfl rfl (by decide) ?_; intro K hK; go_wp2_with fail; clear HF; intro _ HF
    refine slIn_op0 HW HF rfl rfl rfl ?_; intro K hK; have e11 := HF.see 11 rfl; have e60 := HF.see 60 rfl; go_wp2_with fail; clear e11 e60 HF; intro _ HF
    refine slIn_fin ?_
    have hbz := Blk.new W 30 #[.int .i64 tk, .string (str tt), .int .i64 tn, .int .i64 tp]
    have hmz := (Mod.refl Nil W).alloc (.cells #[.int .i64 tk, .string (str tt), .int .i64 tn, .int .i64 tp] 30)
    refine HKK.out _ _ ((KeepsOthers.alloc _ _).from _) (kpc_mod hmz (fun _ h => h.elim)) ⟨⟨⟨HC.out.b3.keep hmz id, HC.out.b4.keep hmz id, HC.out.b5.keep hmz id, HC.out.bN.keep hmz id⟩, HRd.out.keep0 hmz, HB.out.alloc (by have := HB.out.size; exact this) _⟩, hpm.1, hpm.2.1, Nat.le_trans hpm.2.2 hmz.size⟩
      ⟨W.heap.size, hWw, hbz, ?_⟩
    have HF2 := HF.keep [0, 3, 4, 5, 10, 11]
    simp only [pick, look] at HF2
    exact HF2
  case body =>
    rintro lp pre x a' W hlp ⟨r, hr⟩ ⟨⟨hC, hRd, hB⟩, hpm⟩ ⟨Bx, hBx, hbx, HFx⟩ hlen
    exact ss_body (Wd.inRound lp) hm0 hm1 (by omega) HT.out.g4 (by omega) (by rw [hG]; exact .inl rfl) hsl HFx hC hRd hB hpm hBx hbx hlen
  case done =>
    rintro D xs W hD rfl ⟨⟨hC, hRd, hB⟩, hpm⟩ hdef
    dsimp only [Exit.inBlock, Exit.then]
    have HFD := (HF.withD [{ target := .collected D, args := #[] }]).keep [3, 4, 5, 10]
    simp only [pick, look] at HFD
    rw [HF.nd]
    exact ss_end hm0 hm1 hsl HFD hC (by split <;> omega) hdef (by omega) HT.out.g4 (Mod.of_below hB)
  case stop =>
    rintro D cd pre W hD hpre (⟨rfl, n, h1, h2, hC, hB⟩ | ⟨rfl, h⟩) hdef
    · refine wpIn_exit ?_
      dsimp only [Exit.inBlock, Exit.then]
      have HFD := (HF.withD [{ target := .collected D, args := #[] }]).keep [3, 4, 5, 10]
      simp only [pick, look] at HFD
      rw [HF.nd]
      have hlen := hpre.length_le
      simp only [if_true]
      exact ss_end hm0 hm1 hsl HFD hC (by rw [if_neg (by omega)]; exact h2) hdef (by omega) HT.out.g4 (Mod.of_below hB)
    · exact absurd hpre h

set_option maxHeartbeats 3200000 in
set_option maxRecDepth 100000 in
theorem scanStreams_any (l : List UInt8) (most : Int) (w : World) (hl : l.length ≤ 9223372036854775807) (hm0 : 0 ≤ most) (hm1 : most ≤ 255) :
    Calls Tryz.prog 3 #[.string (str l), .int .u8 most] w (SsR w) := by
  have hsz := str_size l
  refine callsIn_wide.1 (sl_enterM (m := 9) (n := 86) (fn := Tryz.f3) (c := ssBody) Wd.wide rfl Tryz.func3 rfl rfl (by simp) fun a HF => ?_)
  · clear hl
    refine wpIn_wide.2 ?_
    conv => arg 2; whnf
    refine wp_seq (wp_region_lit ?_)
    refine sl_op HF rfl rfl (by decide) ?_; intro K hK; have e1 := HF.see 1 rfl; go_wp2_with fail; clear e1 HF; intro _ HF
    refine sl_op HF rfl rfl (by decide) ?_; intro K hK; go_wp2_with fail; clear HF; intro _ HF
    have hb3 : Blk (w.alloc (.cells #[.int .u8 most] 5)) w.heap.size 5 #[.int .u8 most] := Blk.new _ _ _
    have hm3 := (Mod.refl Nil w).alloc (.cells #[.int .u8 most] 5)
    have hs3 : (w.alloc (.cells #[.int .u8 most] 5)).heap.size = w.heap.size + 1 := by simp
    rw [← hs3] at HF
    generalize w.alloc (.cells #[.int .u8 most] 5) = w3 at hb3 hm3 hs3 HF ⊢
    generalize hg3 : w.heap.size = g3 at hb3 HF hs3
    have hb4 : Blk (w3.alloc (.cells #[.bool false] 4)) w3.heap.size 4 #[.bool false] := Blk.new _ _ _
    have hm4 := (Mod.refl Nil w3).alloc (.cells #[.bool false] 4)
    have H3 := Lib.hid (hb3.keep hm4 id)
    have HM4 := Lib.hid (hm3.trans hm4)
    have hg4 : w.heap.size ≤ w3.heap.size := hm3.size
    have hne : g3 ≠ w3.heap.size := by omega
    generalize w3.alloc (.cells #[.bool false] 4) = w4 at hb4 H3 HM4 ⊢
    generalize w3.heap.size = g4 at hb4 HF hg4 hne
    have H4 := Lib.hid hb4
    clear hb3 hm3 hs3 hb4 hm4 hg3
    refine sl_nil (wp_seq (wp_seq (wp_region_lit ?_)))
    refine sl_op HF rfl rfl (by decide) ?_; intro K hK; go_wp2_with fail
    refine (awake12_any _).mono ?_
    rintro e w5 ⟨rfl, hm5⟩
    have H35 := Lib.hid (H3.out.keep hm5 id)
    have H45 := Lib.hid (H4.out.keep hm5 id)
    have HM5 := Lib.hid (HM4.out.trans hm5)
    clear hm5 H3 H4 HM4
    go_wp2_with fail; clear HF; intro _ HF
    by_cases hbig : 500 < l.length
    · have hd : decide ((500 : Int) < (l.length : Int)) = true := by simp; omega
      refine sl_op HF rfl rfl (by decide) ?_; intro K hK; have e12 := HF.see 12 rfl; go_wp2_with fail; clear e12 HF; intro _ HF
      refine sl_move HF rfl rfl (.inl rfl) (by decide) rfl ?_; clear HF; intro _ HF
      refine sl_want HF rfl rfl rfl rfl (by decide) ?_; intro K hK; have e0 := HF.see 0 rfl; go_wp2_with fail; clear e0 HF; intro _ HF
      refine sl_want HF rfl rfl rfl rfl (by decide) ?_; intro K hK; have e15 := HF.see 15 rfl; go_wp2_with fail; clear e15 HF; intro _ HF
      refine sl_want HF rfl rfl rfl rfl (by decide) ?_; intro K hK; have e16 := HF.see 16 rfl; go_wp2_with fail; clear e16 HF; intro _ HF
      refine sl_op HF rfl rfl (by decide) ?_; intro K hK; have e14 := HF.see 14 rfl; have e17 := HF.see 17 rfl; go_wp2_with fail; clear e14 e17 HF; intro _ HF
      refine sl_nil (wp_cond_true (HF.at 18 rfl) (wp_seq (wp_region_lit ?_)))
      refine sl_op HF rfl rfl (by decide) ?_; intro K hK; go_wp2_with fail
      refine (awake12_any _).mono ?_
      rintro e w6 ⟨rfl, hm6⟩
      have H46 := Lib.hid (H45.out.keep hm6 id)
      have HM6 := Lib.hid (HM5.out.trans hm6)
      clear hm6 H35 H45 HM5
      go_wp2_with fail; clear HF; intro _ HF
      have hc4 := H46.out.cell 0
      have hf4 := H46.out.frozen 0
      simp only [List.getElem?_toArray, List.getElem?_cons_zero] at hc4
      refine sl_op0 HF rfl rfl ?_; intro K hK; have e4 := HF.see 4 rfl; have e19 := HF.see 19 rfl; go_wp2_with fail; clear e4 e19 HF; intro _ HF
      refine sl_nil (wp_ret ?_)
      dsimp only [Exit.then]
      have hb7 := H46.out.set_ 0 (.bool true)
      exact ss_ret HF rfl (by simpa using hb7) (HM6.out.set (p := ⟨g4, 0, none⟩) (.inr hg4) _)
    · have hd : decide ((500 : Int) < (l.length : Int)) = false := by simp; omega
      have hl5 : l.length ≤ 500 := by omega
      refine sl_op HF rfl rfl (by decide) ?_; intro K hK; have e12 := HF.see 12 rfl; go_wp2_with fail; clear e12 HF; intro _ HF
      refine sl_move HF rfl rfl (.inl rfl) (by decide) rfl ?_; clear HF; intro _ HF
      refine sl_want HF rfl rfl rfl rfl (by decide) ?_; intro K hK; have e0 := HF.see 0 rfl; go_wp2_with fail; clear e0 HF; intro _ HF
      refine sl_want HF rfl rfl rfl rfl (by decide) ?_; intro K hK; have e15 := HF.see 15 rfl; go_wp2_with fail; clear e15 HF; intro _ HF
      refine sl_want HF rfl rfl rfl rfl (by decide) ?_; intro K hK; have e16 := HF.see 16 rfl; go_wp2_with fail; clear e16 HF; intro _ HF
      refine sl_op HF rfl rfl (by decide) ?_; intro K hK; have e14 := HF.see 14 rfl; have e17 := HF.see 17 rfl; go_wp2_with fail; clear e14 e17 HF; intro _ HF
      refine sl_nil (wp_cond_false (HF.at 18 rfl) (wp_skip (sl_then (wp_seq (wp_region_lit ?_)))))
      clear hd hbig
      refine sl_op HF rfl rfl (by decide) ?_; intro K hK; go_wp2_with fail; clear HF; intro _ HF
      have hb5 : Blk (w5.alloc (.cells #[.slice none 0 0] 23)) w5.heap.size 23 #[.slice none 0 0] := Blk.new _ _ _
      have hm5 := (Mod.refl Nil w5).alloc (.cells #[.slice none 0 0] 23)
      have H36 := Lib.hid (H35.out.keep hm5 id)
      have H46 := Lib.hid (H45.out.keep hm5 id)
      have HM6 := Lib.hid (HM5.out.trans hm5)
      have hne5 : w5.heap.size ≠ g4 := by have := H45.out.lt; omega
      have hg5 : w.heap.size ≤ w5.heap.size := HM5.out.size
      generalize w5.alloc (.cells #[.slice none 0 0] 23) = w6 at hb5 H36 H46 HM6 ⊢
      generalize w5.heap.size = g5 at hb5 HF hne5 hg5
      have H56 := Lib.hid hb5
      clear hb5 hm5 H35 H45 HM5
      refine sl_nil (wp_seq (wp_seq (wp_region_lit ?_)))
      refine sl_move HF rfl rfl (.inl rfl) (by decide) rfl ?_; clear HF; intro _ HF
      refine sl_op HF rfl rfl (by decide) ?_; intro K hK; have e20 := HF.see 20 rfl; go_wp2_with fail; clear e20 HF; intro _ HF
      refine sl_move HF rfl rfl (.inr rfl) (by decide) rfl ?_; clear HF; intro _ HF
      have HF2 := HF.keep [0, 3, 4, 5, 6]
      simp only [pick, look, argL] at HF2
      refine sl_nil (wp_block (wp_loop (SsI w l most g3 g4 g5) (fun ac _ => (intOf (ac.eval (.tmp 6))).toNat) ⟨l.length, HF2, H36.out, H46.out, H56.out, HM6.out, .inl rfl⟩ ?_))
      clear HF HF2 H36 H46 H56 HM6
      rintro ac2 w7 ⟨i, HF, hb3, hb4, hb5, hm7, hi⟩
      have HMU := Lib.hid (show (ac2.tmps[6]?).getD undef = .int .i64 (i : Nat) from HF.see 6 rfl)
      have H3 := Lib.hid hb3
      have H4 := Lib.hid hb4
      have H5 := Lib.hid hb5
      have HM7 := Lib.hid hm7
      have hil : i ≤ l.length := by
        rcases hi with h | ⟨h, _⟩
        · omega
        · have := (want_eq.2 i h).1; omega
      have HI := Lib.hid hi
      have h0i : decide ((0 : Int) ≤ (i : Int)) = true := by simp
      clear hb3 hb4 hb5 hm7 hi
      refine wp_seq (wp_seq (wp_region_lit ?_))
      refine sl_move HF rfl rfl (.inl rfl) (by decide) rfl ?_; clear HF; intro _ HF
      refine sl_op HF rfl rfl (by decide) ?_; intro K hK; have e22 := HF.see 22 rfl; go_wp2_with fail; clear e22 HF; intro _ HF
      refine sl_nil (wp_cond_true (HF.at 23 rfl) (wp_skip (sl_then (wp_seq (wp_block (wp_seq (wp_region_lit ?_)))))))
      have he := str_take l i
      have HALL := Lib.hid (rAll_any (l.take i) (by rw [List.length_take]; omega) w7)
      refine sl_move HF rfl rfl (.inl rfl) (by decide) rfl ?_; clear HF; intro _ HF
      refine sl_move HF rfl rfl (.inl rfl) (by decide) rfl ?_; clear HF; intro _ HF
      refine sl_op HF rfl rfl (by decide) ?_; intro K hK; have e27 := HF.see 27 rfl; have e28 := HF.see 28 rfl; go_wp2_with fail; clear e27 e28 HF; intro _ HF
      refine sl_op HF rfl rfl (by decide) ?_; intro K hK; have e29 := HF.see 29 rfl; go_wp2_with fail
      refine HALL.out.mono ?_
      rintro e w8 ⟨hr, hm8⟩
      obtain ⟨v, c, p, rfl, hv⟩ := hr.vals
      have HV := Lib.hid hv
      have H38 := Lib.hid (H3.out.keep hm8 id)
      have H48 := Lib.hid (H4.out.keep hm8 id)
      have H58 := Lib.hid (H5.out.keep hm8 id)
      have HM8 := Lib.hid (HM7.out.trans hm8)
      have hg48 : g4 < w7.heap.size := H4.out.lt
      have hg58 : g5 < w7.heap.size := H5.out.lt
      clear hr hm8 hv H3 H4 H5 HM7 HALL he
      go_wp2_with fail; clear e29 HF; intro _ HF
      refine sl_move HF rfl rfl (.inl rfl) (by decide) rfl ?_; clear HF; intro _ HF
      refine sl_op HF rfl rfl (by decide) ?_; intro K hK; have e26 := HF.see 26 rfl; go_wp2_with fail; clear e26 HF; intro _ HF
      refine sl_op HF rfl rfl (by decide) ?_; intro K hK; have e26 := HF.see 26 rfl; go_wp2_with fail; clear e26 HF; intro _ HF
      refine sl_op HF rfl rfl (by decide) ?_; intro K hK; have e26 := HF.see 26 rfl; go_wp2_with fail; clear e26 HF; intro _ HF
      refine sl_move HF rfl rfl (.inr rfl) (by decide) rfl ?_; clear HF; intro _ HF
      refine sl_move HF rfl rfl (.inr rfl) (by decide) rfl ?_; clear HF; intro _ HF
      refine sl_move HF rfl rfl (.inr rfl) (by decide) rfl ?_; clear HF; intro _ HF
      have HF2 := HF.keep [0, 3, 4, 5, 6, 7, 8, 9]
      simp only [pick, look] at HF2
      clear HF
      have HF := HF2
      clear HF2
      refine sl_nil (wp_seq (wp_seq (wp_region_lit ?_)))
      have hlt : (l.take i).length ≤ 4000 := by rw [List.length_take]; omega
      -- where the tokens are there: what is behind the loop
      have hgo : ∀ (a' : Act) (A : Option Addr) (cp : Nat) (w' : World), Sl 86 [(0, .string (str l)), (3, .pointer (some ⟨g3, 0, none⟩)), (4, .pointer (some ⟨g4, 0, none⟩)), (5, .pointer (some ⟨g5, 0, none⟩))] a' → SsT w w' l most g3 g4 g5 A cp →
          Code.wp Tryz.prog (part [1, 1, 1, 1] ssBody) (bodyPostM Fence.wide 9 Tryz.prog Tryz.f3 (SsR w)) a' w' := fun a' A cp w' hF hT => ss_rest hl5 hm0 hm1 hF hT (by have := strW_len l; omega)
      have HGO := Lib.hid hgo
      clear hgo
      rcases hra : allR (l.take i) with ⟨c', p'⟩ | ts
      · -- an error: the whole text's
        rw [hra] at HV
        obtain ⟨rfl, rfl, rfl⟩ := HV.out
        obtain ⟨rfl, hap⟩ := allR_len hlt hra
        have hie : i = l.length := by
          rcases HI.out with h | ⟨h, _⟩
          · exact h
          · rw [(want_eq.2 i h).2.1] at hap
            cases hap
        subst hie
        rw [List.take_length] at hap
        have HW := Lib.hid (want_eq.2 p hap)
        have HAP := Lib.hid hap
        have hpl := (want_eq.2 p hap).1
        clear hra hap
        refine sl_move HF rfl rfl (.inl rfl) (by decide) rfl ?_; clear HF; intro _ HF
        refine sl_move HF rfl rfl (.inl rfl) (by decide) rfl ?_; clear HF; intro _ HF
        refine sl_op HF rfl rfl (by decide) ?_; intro K hK; have e35 := HF.see 35 rfl; go_wp2_with fail; clear e35 HF; intro _ HF
        refine sl_op HF rfl rfl (by decide) ?_; intro K hK; have e34 := HF.see 34 rfl; have e36 := HF.see 36 rfl; go_wp2_with fail; clear e34 e36 HF; intro _ HF
        refine sl_move HF rfl rfl (.inl rfl) (by decide) rfl ?_; clear HF; intro _ HF
        refine sl_want HF rfl rfl rfl rfl (by decide) ?_; intro K hK; have e8 := HF.see 8 rfl; go_wp2_with fail; clear e8 HF; intro _ HF
        refine sl_want HF rfl rfl rfl rfl (by decide) ?_; intro K hK; have e39 := HF.see 39 rfl; go_wp2_with fail; clear e39 HF; intro _ HF
        refine sl_op HF rfl rfl (by decide) ?_; intro K hK; have e38 := HF.see 38 rfl; have e40 := HF.see 40 rfl; go_wp2_with fail; clear e38 e40 HF; intro _ HF
        refine sl_nil (wp_cond_true (HF.at 41 rfl) (wp_seq (wp_region_lit ?_)))
        refine sl_move HF rfl rfl (.inl rfl) (by decide) rfl ?_; clear HF; intro _ HF
        refine sl_op HF rfl rfl (by decide) ?_; intro K hK; have e42 := HF.see 42 rfl; go_wp2_with fail; clear e42 HF; intro _ HF
        refine sl_move HF rfl rfl (.inr rfl) (by decide) rfl ?_; clear HF; intro _ HF
        refine sl_nil (wp_seq (wp_seq (wp_region_lit ?_)))
        by_cases hp0 : p = 0
        · subst hp0
          refine sl_move HF rfl rfl (.inl rfl) (by decide) rfl ?_; clear HF; intro _ HF
          refine sl_op HF rfl rfl (by decide) ?_; intro K hK; have e44 := HF.see 44 rfl; go_wp2_with fail; clear e44 HF; intro _ HF
          refine sl_nil (wp_cond_true (HF.at 45 rfl) (wp_exit ?_))
          dsimp only [Exit.then]
          refine sl_exit_ne (by decide) ?_
          dsimp only [Exit.then]
          refine sl_exit (sl_then ?_)
          have hnil := HW.out.2.2 (by simp)
          have HF2 := HF.keep [0, 3, 4, 5]
          simp only [pick, look] at HF2
          refine HGO.out _ none 0 _ HF2 ⟨H38.out, H48.out, ?_, ?_, ?_, by omega, ⟨hne, hne5⟩, hg4, HM8.out⟩
          · rw [hnil]; exact H58.out
          · rw [hnil]; exact Rd.nil _ _ _
          · rw [hnil]; exact Nat.le_refl _
        · have hq : ((p : Int) == 0) = false := by simpa using hp0
          refine sl_move HF rfl rfl (.inl rfl) (by decide) rfl ?_; clear HF; intro _ HF
          refine sl_op HF rfl rfl (by decide) ?_; intro K hK; have e44 := HF.see 44 rfl; go_wp2_with fail; clear e44 HF; intro _ HF
          refine sl_nil (wp_cond_false (HF.at 45 rfl) (wp_skip (sl_then (wp_exit ?_))))
          dsimp only [Exit.then]
          refine sl_exit (sl_then (wp_region_lit ?_))
          refine sl_move HF rfl rfl (.inl rfl) (by decide) rfl ?_; clear HF; intro _ HF
          refine sl_op HF rfl rfl (by decide) ?_; intro K hK; have e24 := HF.see 24 rfl; go_wp2_with fail; clear e24 HF; intro _ HF
          refine sl_move HF rfl rfl (.inr rfl) (by decide) rfl ?_; clear HF; intro _ HF
          have HF2 := HF.keep [0, 3, 4, 5, 6]
          simp only [pick, look] at HF2
          refine wpList_nil ?_
          show _ ∧ _
          refine ⟨⟨p, HF2, H38.out, H48.out, H58.out, HM8.out, .inr ⟨HAP.out, by omega⟩⟩, ?_⟩
          have e6 := HF2.see 6 rfl
          try simp only [Act.eval_tmp]
          rw [e6, HMU.out]
          simp only [intOf]
          omega
      · rw [hra] at HV
        obtain ⟨A, cp, rfl, hcp1, hcp2, hrd⟩ := allv_rd HV.out
        obtain ⟨rfl, rfl, _⟩ := HV.out
        have HRD := Lib.hid (hrd.mono (S' := fun b => b ≠ g4 ∧ b ≠ g5) fun b _ hb => by omega)
        have hal := allR_ok hra
        clear hrd HV hra
        have hc5 := H58.out.cell 0
        have hf5 := H58.out.frozen 0
        simp only [List.getElem?_toArray, List.getElem?_cons_zero] at hc5
        have hb59 : Blk (w8.setCell ⟨g5, 0, none⟩ (.slice A ts.length cp)) g5 23 #[.slice A ts.length cp] := by
          have := H58.out.set_ 0 (.slice A ts.length cp)
          simpa using this
        have hmg : Mod (fun k => k = g5) w8 (w8.setCell ⟨g5, 0, none⟩ (.slice A ts.length cp)) := Mod.set (F := fun k => k = g5) (Mod.refl _ w8) (p := ⟨g5, 0, none⟩) (.inl rfl) _
        have hne35 : g3 ≠ g5 := H38.out.ne_ H58.out (by decide)
        have H39 := Lib.hid (H38.out.keep hmg (fun h => hne35 h))
        have H49 := Lib.hid (H48.out.keep hmg (fun h => hne5 h.symm))
        have HM9 := Lib.hid (HM8.out.set (p := ⟨g5, 0, none⟩) (.inr hg5) (.slice A ts.length cp))
        have H59 := Lib.hid hb59
        have HMG := Lib.hid hmg
        clear hb59 hmg
        by_cases hie : i = l.length
        · subst hie
          rw [List.take_length] at hal
          have hst := want_eq.1 ts hal
          have HST := Lib.hid hst
          refine sl_move HF rfl rfl (.inl rfl) (by decide) rfl ?_; clear HF; intro _ HF
          refine sl_move HF rfl rfl (.inl rfl) (by decide) rfl ?_; clear HF; intro _ HF
          refine sl_op HF rfl rfl (by decide) ?_; intro K hK; have e35 := HF.see 35 rfl; go_wp2_with fail; clear e35 HF; intro _ HF
          refine sl_op HF rfl rfl (by decide) ?_; intro K hK; have e34 := HF.see 34 rfl; have e36 := HF.see 36 rfl; go_wp2_with fail; clear e34 e36 HF; intro _ HF
          refine sl_move HF rfl rfl (.inl rfl) (by decide) rfl ?_; clear HF; intro _ HF
          refine sl_want HF rfl rfl rfl rfl (by decide) ?_; intro K hK; have e8 := HF.see 8 rfl; go_wp2_with fail; clear e8 HF; intro _ HF
          refine sl_want HF rfl rfl rfl rfl (by decide) ?_; intro K hK; have e39 := HF.see 39 rfl; go_wp2_with fail; clear e39 HF; intro _ HF
          refine sl_op HF rfl rfl (by decide) ?_; intro K hK; have e38 := HF.see 38 rfl; have e40 := HF.see 40 rfl; go_wp2_with fail; clear e38 e40 HF; intro _ HF
          refine sl_nil (wp_cond_false (HF.at 41 rfl) (wp_skip (sl_then (wp_seq (wp_region_lit ?_)))))
          refine sl_move HF rfl rfl (.inl rfl) (by decide) rfl ?_; clear HF; intro _ HF
          refine sl_op HF rfl rfl (by decide) ?_; intro K hK; have e46 := HF.see 46 rfl; go_wp2_with fail; clear e46 HF; intro _ HF
          refine sl_nil (wp_cond_true (HF.at 47 rfl) (wp_seq (wp_region_lit ?_)))
          refine sl_move HF rfl rfl (.inl rfl) (by decide) rfl ?_; clear HF; intro _ HF
          refine sl_op0 HF rfl rfl ?_; intro K hK; have e5 := HF.see 5 rfl; have e48 := HF.see 48 rfl; go_wp2_with fail; clear e5 e48 HF; intro _ HF
          refine sl_nil (wp_seq (wp_seq (wp_region_lit ?_)))
          refine sl_move HF rfl rfl (.inl rfl) (by decide) rfl ?_; clear HF; intro _ HF
          refine sl_move HF rfl rfl (.inl rfl) (by decide) rfl ?_; clear HF; intro _ HF
          refine sl_op HF rfl rfl (by decide) ?_; intro K hK; have e50 := HF.see 50 rfl; go_wp2_with fail; clear e50 HF; intro _ HF
          refine sl_op HF rfl rfl (by decide) ?_; intro K hK; have e49 := HF.see 49 rfl; have e51 := HF.see 51 rfl; go_wp2_with fail; clear e49 e51 HF; intro _ HF
          refine sl_nil (wp_cond_false (HF.at 52 rfl) (wp_skip (sl_then (wp_exit ?_))))
          refine sl_exit_ne (by decide) ?_
          dsimp only [Exit.then]
          refine sl_exit (sl_then ?_)
          have HF2 := HF.keep [0, 3, 4, 5]
          simp only [pick, look] at HF2
          refine HGO.out _ A cp _ HF2 ⟨H39.out, H49.out, ?_, ?_, ?_, hcp2, ⟨hne, hne5⟩, hg4, HM9.out⟩
          · rw [HST.out]; exact H59.out
          · rw [HST.out]; exact (HRD.out.keep HMG.out (fun b hb h => hb.2 h)).mono fun b _ hb => hb.1
          · rw [HST.out]; exact hcp1
        · have HP := Lib.hid (HI.out.resolve_left hie)
          have hst := want_eq.2 i HP.out.1
          have hst2 := hst.2.1
          rw [hst.2.1] at hal
          injection hal with hal
          have hil2 := hst.1
          have HST := Lib.hid hal
          clear hst hal hc5 hf5
          have hc5 := H58.out.cell 0
          have hf5 := H58.out.frozen 0
          simp only [List.getElem?_toArray, List.getElem?_cons_zero] at hc5
          have hq : ((i : Int) == (l.length : Int)) = false := by simp; omega
          refine sl_move HF rfl rfl (.inl rfl) (by decide) rfl ?_; clear HF; intro _ HF
          refine sl_move HF rfl rfl (.inl rfl) (by decide) rfl ?_; clear HF; intro _ HF
          refine sl_op HF rfl rfl (by decide) ?_; intro K hK; have e35 := HF.see 35 rfl; go_wp2_with fail; clear e35 HF; intro _ HF
          refine sl_op HF rfl rfl (by decide) ?_; intro K hK; have e34 := HF.see 34 rfl; have e36 := HF.see 36 rfl; go_wp2_with fail; clear e34 e36 HF; intro _ HF
          refine sl_move HF rfl rfl (.inl rfl) (by decide) rfl ?_; clear HF; intro _ HF
          refine sl_skip HF rfl rfl rfl rfl (by decide) ?_; clear HF; intro _ HF
          refine sl_skip HF rfl rfl rfl rfl (by decide) ?_; clear HF; intro _ HF
          refine sl_op HF rfl rfl (by decide) ?_; intro K hK; have e38 := HF.see 38 rfl; have e40 := HF.see 40 rfl; go_wp2_with fail; clear e38 e40 HF; intro _ HF
          refine sl_nil (wp_cond_false (HF.at 41 rfl) (wp_skip (sl_then (wp_seq (wp_region_lit ?_)))))
          refine sl_move HF rfl rfl (.inl rfl) (by decide) rfl ?_; clear HF; intro _ HF
          refine sl_op HF rfl rfl (by decide) ?_; intro K hK; have e46 := HF.see 46 rfl; go_wp2_with fail; clear e46 HF; intro _ HF
          refine sl_nil (wp_cond_true (HF.at 47 rfl) (wp_seq (wp_region_lit ?_)))
          refine sl_move HF rfl rfl (.inl rfl) (by decide) rfl ?_; clear HF; intro _ HF
          refine sl_op0 HF rfl rfl ?_; intro K hK; have e5 := HF.see 5 rfl; have e48 := HF.see 48 rfl; go_wp2_with fail; clear e5 e48 HF; intro _ HF
          refine sl_nil (wp_seq (wp_seq (wp_region_lit ?_)))
          have hd : decide ((i : Int) < (l.length : Int)) = true := by simp; omega
          refine sl_move HF rfl rfl (.inl rfl) (by decide) rfl ?_; clear HF; intro _ HF
          refine sl_move HF rfl rfl (.inl rfl) (by decide) rfl ?_; clear HF; intro _ HF
          refine sl_op HF rfl rfl (by decide) ?_; intro K hK; have e50 := HF.see 50 rfl; go_wp2_with fail; clear e50 HF; intro _ HF
          refine sl_op HF rfl rfl (by decide) ?_; intro K hK; have e49 := HF.see 49 rfl; have e51 := HF.see 51 rfl; go_wp2_with fail; clear e49 e51 HF; intro _ HF
          have hsl : ts.length = (strW l 0).length + 1 := by rw [← HST.out]; simp
          generalize w8.setCell ⟨g5, 0, none⟩ (.slice A ts.length cp) = w10 at H39 H49 HM9 H59 HMG ⊢
          rw [hsl] at HF hcp1 H59
          have HRD10 := Lib.hid (HRD.out.keep HMG.out (fun b hb h => hb.2 h))
          have hc5' := H59.out.cell 0
          have hf5' := H59.out.frozen 0
          simp only [List.getElem?_toArray, List.getElem?_cons_zero] at hc5'
          have hn10 : (strW l 0).length ≤ 100000 := by
            have h1 := (allR_bd (l := l.take i) (ts := ts) (by unfold allR; rw [if_neg (by omega), hst2, HST.out])).1
            rw [hsl, List.length_take] at h1
            omega
          refine sl_nil (wp_cond_true (HF.at 52 rfl) (wp_region_lit ?_))
          generalize hsn : (strW l 0).length = sn at HF hcp1 H59 hn10
          have hc10 : w10.cell? ⟨g5, 0, none⟩ = some (.slice A (sn + 1) cp) := by
            have := H59.out.cell 0
            simpa using this
          clear hc5'
          refine sl_move HF rfl rfl (.inl rfl) (by decide) rfl ?_; clear HF; intro _ HF
          refine sl_move HF rfl rfl (.inl rfl) (by decide) rfl ?_; clear HF; intro _ HF
          refine sl_op HF rfl rfl (by decide) ?_; intro K hK; have e54 := HF.see 54 rfl; go_wp2_with fail; clear e54 HF; intro _ HF
          refine sl_op HF rfl rfl (by decide) ?_; intro K hK; have e55 := HF.see 55 rfl; go_wp2_with fail; clear e55 HF; intro _ HF
          refine sl_op HF rfl rfl (by decide) ?_; intro K hK; have e53 := HF.see 53 rfl; have e56 := HF.see 56 rfl; go_wp2_with fail; clear e53 e56 HF; intro _ HF
          refine sl_op0 HF rfl rfl ?_; intro K hK; have e5 := HF.see 5 rfl; have e57 := HF.see 57 rfl; go_wp2_with fail; clear e5 e57 HF; intro _ HF
          have hb11 : Blk (w10.setCell ⟨g5, 0, none⟩ (.slice A sn cp)) g5 23 #[.slice A sn cp] := by
            have := H59.out.set_ 0 (.slice A sn cp)
            simpa using this
          have hmg2 : Mod (fun k => k = g5) w10 (w10.setCell ⟨g5, 0, none⟩ (.slice A sn cp)) := Mod.set (F := fun k => k = g5) (Mod.refl _ w10) (p := ⟨g5, 0, none⟩) (.inl rfl) _
          have h311 := H39.out.keep hmg2 (fun h => hne35 h)
          have h411 := H49.out.keep hmg2 (fun h => hne5 h.symm)
          have hm11 := HM9.out.set (p := ⟨g5, 0, none⟩) (.inr hg5) (.slice A sn cp)
          have hr11 := (HRD10.out.keep hmg2 (fun b hb h => hb.2 h)).mono (S' := fun b => b ≠ g4) fun b _ hb => hb.1
          refine sl_nil (wp_exit ?_)
          refine sl_exit_ne (by decide) ?_
          dsimp only [Exit.then]
          refine sl_exit (sl_then ?_)
          have HF2 := HF.keep [0, 3, 4, 5]
          simp only [pick, look] at HF2
          refine HGO.out _ A cp _ HF2 ⟨h311, h411, ?_, ?_, ?_, hcp2, ⟨hne, hne5⟩, hg4, hm11⟩
          · rw [hsn]; exact hb11
          · have h5 := hr11.take (sn * 4)
            have h6 : (tkCells ts).take (sn * 4) = tkCells (strW l 0) := by rw [← HST.out, ← hsn]; exact tkCells_take _ _
            rw [h6] at h5
            exact h5
          · rw [hsn]; omega
end Go.Proofs.YtefloadjolpgbaaGreatDoor
