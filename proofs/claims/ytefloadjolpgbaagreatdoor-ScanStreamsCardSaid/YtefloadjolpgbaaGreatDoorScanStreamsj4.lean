/- Parts of the proof of ScanStreams, joined: Abs Flow5 Ab2 ScE ScG ScW ScV. -/
import Derived.Test.YtefloadjolpgbaaGreatDoorScanStreamsj3
import Derived.Laws.StructEq
import Derived.Outline
import Derived.WalkMore
namespace Go.Proofs.YtefloadjolpgbaaGreatDoor
open Go.RowKit

def look : List (Tmp × Value) → Tmp → Option Value
  | [], _ => none
  | (k, v) :: r, t => match Nat.beq k t with
    | true => some v
    | false => look r t

def pick (L : List (Tmp × Value)) : List Tmp → List (Tmp × Value)
  | [] => []
  | t :: r => match look L t with
    | some v => (t, v) :: pick L r
    | none => pick L r

theorem look_cons_same (t : Tmp) (v : Value) (L : List (Tmp × Value)) : look ((t, v) :: L) t = some v := by
  simp [look]
theorem look_cons_ne {k t : Tmp} (v : Value) (L : List (Tmp × Value)) (h : k ≠ t) : look ((k, v) :: L) t = look L t := by
  have : Nat.beq k t = false := by
    rcases hb : Nat.beq k t with _ | _
    · rfl
    · exact absurd (Nat.eq_of_beq_eq_true hb) h
  simp [look, this]

/-- A frame of n slots, without deferred calls, of which so much is known. -/
structure Sl (n : Nat) (L : List (Tmp × Value)) (a : Act) : Prop where
  size : a.tmps.size = n
  nd : a.defers = []
  sees : ∀ t v, look L t = some v → a.eval (.tmp t) = v

section
variable {P : Program} {n : Nat} {L : List (Tmp × Value)} {a : Act}

theorem Sl.at (h : Sl n L a) (t : Tmp) {v : Value} (e : look L t = some v) : a.eval (.tmp t) = v := h.sees t v e

theorem Sl.put (h : Sl n L a) {d : Tmp} (hd : d < n) (v : Value) : Sl n ((d, v) :: L) (a.put (some d) v) := by
  refine ⟨by rw [Act.size_put, h.size], h.nd, fun t u e => ?_⟩
  by_cases hdt : d = t
  · subst hdt
    rw [look_cons_same] at e
    injection e with e
    rw [Act.eval_put_same _ (by rw [h.size]; exact hd), e]
  · rw [look_cons_ne _ _ hdt] at e
    rw [Act.eval_put_ne _ hdt, h.sees t u e]

theorem look_pick (ts : List Tmp) {t : Tmp} {v : Value} (h : look (pick L ts) t = some v) : look L t = some v := by
  induction ts with
  | nil => simp [pick, look] at h
  | cons s r ih =>
    rw [pick] at h
    rcases hs : look L s with _ | u
    · rw [hs] at h
      exact ih h
    · rw [hs] at h
      by_cases hst : s = t
      · subst hst
        rw [look_cons_same] at h
        rw [hs, h]
      · rw [look_cons_ne _ _ hst] at h
        exact ih h

/-- Of some slots alone. -/
theorem Sl.keep (h : Sl n L a) (ts : List Tmp) : Sl n (pick L ts) a := ⟨h.size, h.nd, fun t v e => h.sees t v (look_pick ts e)⟩

/-- One slot more. -/
theorem Sl.also (h : Sl n L a) {t : Tmp} {v : Value} (e : a.eval (.tmp t) = v) : Sl n ((t, v) :: L) a := ⟨h.size, h.nd, fun s u hs => by
  by_cases hts : t = s
  · subst hts
    rw [look_cons_same] at hs
    injection hs with hs
    rw [e, hs]
  · rw [look_cons_ne _ _ hts] at hs
    exact h.sees s u hs⟩

section ops
variable {ops : Array Oper} {Q : Exit → Act → World → Prop} {w : World} {rest : List Oper} {o : Oper} {d : Tmp}

/-- An operation that writes a slot. -/
theorem sl_op (h : Sl n L a) (hg : o.guard = none) (hd : o.dst = some d) (hn : d < n)
    (hop : ∀ K : Act → World → Prop, (∀ v w', (∀ a', Sl n ((d, v) :: L) a' → wpList P ops Q rest a' w') → K (a.put (some d) v) w') → o.wp P a w K Q) : wpList P ops Q (o :: rest) a w :=
  wpList_plain hg fun K hK => hop K fun v _ hk => hK _ _ (hk _ (h.put hn v))

/-- One that writes none. -/
theorem sl_op0 (h : Sl n L a) (hg : o.guard = none) (hd : o.dst = none)
    (hop : ∀ K : Act → World → Prop, (∀ w', (∀ a', Sl n L a' → wpList P ops Q rest a' w') → K a w') → o.wp P a w K Q) : wpList P ops Q (o :: rest) a w :=
  wpList_plain hg fun K hK => hop K fun _ hk => hK _ _ (hk _ h)

theorem sl_move {t : Tmp} {v : Value} (h : Sl n L a) (hg : o.guard = none) (hd : o.dst = some d) (ho : o.op = .move (.tmp t) ∨ o.op = .assign (.tmp t)) (hn : d < n) (hv : look L t = some v)
    (hk : ∀ a', Sl n ((d, v) :: L) a' → wpList P ops Q rest a' w) : wpList P ops Q (o :: rest) a w := by
  refine wpList_plain hg fun K hK => ?_
  have : K (a.put o.dst (a.eval (.tmp t))) w := by
    rw [h.sees t v hv, hd]
    exact hK _ _ (hk _ (h.put hn v))
  rcases ho with ho | ho
  · exact BigFrame.wp_move _ ho this
  · exact BigFrame.wp_assign _ ho this

theorem sl_const {v : Value} (h : Sl n L a) (hg : o.guard = none) (hd : o.dst = some d) (ho : o.op = .move (.const v) ∨ o.op = .assign (.const v)) (hn : d < n)
    (hk : ∀ a', Sl n ((d, v) :: L) a' → wpList P ops Q rest a' w) : wpList P ops Q (o :: rest) a w := by
  refine wpList_plain hg fun K hK => ?_
  have : K (a.put o.dst (a.eval (.const v))) w := by
    rw [hd]
    exact hK _ _ (hk _ (h.put hn v))
  rcases ho with ho | ho
  · exact BigFrame.wp_move _ ho this
  · exact BigFrame.wp_assign _ ho this

/-- A guarded operation that is wanted. -/
theorem sl_want {j g : Nat} {b : Bool} (h : Sl n L a) (hg : o.guard = some (j, b)) (hj : (ops[j]?).bind (·.dst) = some g) (hb : look L g = some (.bool b)) (hd : o.dst = some d) (hn : d < n)
    (hop : ∀ K : Act → World → Prop, (∀ v w', (∀ a', Sl n ((d, v) :: L) a' → wpList P ops Q rest a' w') → K (a.put (some d) v) w') → o.wp P a w K Q) : wpList P ops Q (o :: rest) a w := by
  have e := h.sees g _ hb
  have hw : Region.wanted o (yielded ops a.tmps) = true := by
    unfold Region.wanted yielded
    rw [hg]
    simp only [hj]
    have hgs : g < a.tmps.size := by
      rcases Nat.lt_or_ge g a.tmps.size with h | h
      · exact h
      · simp [Act.eval, Array.getElem?_eq_none h, undef] at e
    have : a.tmps[g]? = some (.bool b) := by
      simp [Act.eval, hgs] at e
      rw [Array.getElem?_eq_getElem hgs, e]
    simp [this]
  exact wpList_step fun K hK => by
    rw [if_pos hw]
    exact hop K fun v _ hk => hK _ _ (hk _ (h.put hn v))

/-- A guarded operation that is not. -/
theorem sl_skip {j g : Nat} {b : Bool} (h : Sl n L a) (hg : o.guard = some (j, b)) (hj : (ops[j]?).bind (·.dst) = some g) (hb : look L g = some (.bool (!b))) (hd : o.dst = some d) (hn : d < n)
    (hk : ∀ a', Sl n ((d, undef) :: L) a' → wpList P ops Q rest a' w) : wpList P ops Q (o :: rest) a w := by
  have e := h.sees g _ hb
  have hw : ¬ Region.wanted o (yielded ops a.tmps) = true := by
    unfold Region.wanted yielded
    rw [hg]
    simp only [hj]
    have hgs : g < a.tmps.size := by
      rcases Nat.lt_or_ge g a.tmps.size with h | h
      · exact h
      · simp [Act.eval, Array.getElem?_eq_none h, undef] at e
    have : a.tmps[g]? = some (.bool (!b)) := by
      simp [Act.eval, hgs] at e
      rw [Array.getElem?_eq_getElem hgs, e]
    simp [this]
  exact wpList_step fun K hK => by
    rw [if_neg hw, hd]
    exact hK _ _ (hk _ (h.put hn undef))
/-- A guarded operation whose guard was not carried out. -/
theorem sl_skip_u {j g : Nat} {b : Bool} (h : Sl n L a) (hg : o.guard = some (j, b)) (hj : (ops[j]?).bind (·.dst) = some g) (hb : look L g = some undef) (hd : o.dst = some d) (hn : d < n)
    (hk : ∀ a', Sl n ((d, undef) :: L) a' → wpList P ops Q rest a' w) : wpList P ops Q (o :: rest) a w := by
  have e := h.sees g _ hb
  have hw : ¬ Region.wanted o (yielded ops a.tmps) = true := by
    unfold Region.wanted yielded
    rw [hg]
    simp only [hj]
    rcases Nat.lt_or_ge g a.tmps.size with hgs | hgs
    · have : a.tmps[g]? = some undef := by
        simp [Act.eval, hgs] at e
        rw [Array.getElem?_eq_getElem hgs, e]
      simp [this, undef]
    · simp [Array.getElem?_eq_none hgs]
  exact wpList_step fun K hK => by
    rw [if_neg hw, hd]
    exact hK _ _ (hk _ (h.put hn undef))
end ops

/-! ### regions that draw their order -/

/-- The slots' values, ahead of what was known. -/
def laid (vs : Tmp → Value) : List Tmp → List (Tmp × Value) → List (Tmp × Value)
  | [], L => L
  | t :: r, L => (t, vs t) :: laid vs r L

theorem look_laid (vs : Tmp → Value) (D : List Tmp) (t : Tmp) : look (laid vs D L) t = if t ∈ D then some (vs t) else look L t := by
  induction D with
  | nil => simp [laid]
  | cons d r ih =>
    rw [laid]
    by_cases hdt : d = t
    · subst hdt
      rw [look_cons_same, if_pos (by simp)]
    · rw [look_cons_ne _ _ hdt, ih]
      by_cases ht : t ∈ r
      · rw [if_pos ht, if_pos (by simp [ht])]
      · rw [if_neg ht, if_neg (by simp [ht, Ne.symm hdt])]

theorem sl_flow {id : Nat} {ops : List Oper} {w : World} {Q : Exit → Act → World → Prop} (hm : P.follows .mixedOrders = true) {R : World → World → Prop}
    (VS : List (Tmp × St R)) (h : Sl n L a) (hok : flowOk ops.toArray (VS.map (·.1)) n = true) (hrefl : ∀ a, R a a) (htrans : ∀ a b c, R a b → R b c → R a c)
    (hops : FlowAll2 P ops.toArray VS Q a w.drew ops)
    (hfin : ∀ w' a' vs, R w.drew w' → HoldsAll vs w' VS → Sl n (laid vs (VS.map (·.1)) L) a' → Q .normal a' w') :
    (Code.region id ops.toArray true).wp P Q a w := by
  have hs := h.size
  have hok' := hok
  simp only [flowOk, Bool.and_eq_true, decide_eq_true_eq, List.all_eq_true] at hok'
  refine wp_flow2 hm VS (by rw [hs]; exact hok) hrefl htrans hops fun w' vs hR hV => hfin w' _ vs hR hV ?_
  have key := fun t => putAll_eval vs (VS.map (·.1)) a t hok'.1.2 (fun d hd => by rw [hs]; exact hok'.1.1.2 d hd)
  refine ⟨by rw [(key 0).2.1, hs], by rw [(key 0).2.2, h.nd], fun t v e => ?_⟩
  rw [look_laid] at e
  rw [(key t).1]
  split at e
  · rename_i ht
    rw [if_pos ht]
    injection e
  · rename_i ht
    rw [if_neg ht]
    exact h.sees t v e

theorem sl_flow3 {id : Nat} {ops : List Oper} {w : World} {Q : Exit → Act → World → Prop} (hm : P.follows .mixedOrders = true) {R : World → World → Prop}
    (wr : List Nat) (ms : List (Option Nat)) (VS : List (Tmp × St R)) (Ph : Nat → World → Prop) (h : Sl n L a) (hok : flowOk ops.toArray (VS.map (·.1)) n = true) (hch : chainOk ops.toArray wr = true) (hms : marksOk wr ms = true)
    (hrefl : ∀ a, R a a) (htrans : ∀ a b c, R a b → R b c → R a c) (h0 : Ph 0 w.drew)
    (hops : FlowAll4 P ops.toArray VS Q a w.drew Ph ms ops)
    (hfin : ∀ w' a' vs, R w.drew w' → Ph wr.length w' → HoldsAll vs w' VS → Sl n (laid vs (VS.map (·.1)) L) a' → Q .normal a' w') :
    (Code.region id ops.toArray true).wp P Q a w := by
  have hs := h.size
  have hok' := hok
  simp only [flowOk, Bool.and_eq_true, decide_eq_true_eq, List.all_eq_true] at hok'
  refine wp_flow3 hm wr ms VS Ph (by rw [hs]; exact hok) hch hms hrefl htrans h0 hops fun w' vs hR hP hV => hfin w' _ vs hR hP hV ?_
  have key := fun t => putAll_eval vs (VS.map (·.1)) a t hok'.1.2 (fun d hd => by rw [hs]; exact hok'.1.1.2 d hd)
  refine ⟨by rw [(key 0).2.1, hs], by rw [(key 0).2.2, h.nd], fun t v e => ?_⟩
  rw [look_laid] at e
  rw [(key t).1]
  split at e
  · rename_i ht
    rw [if_pos ht]
    injection e
  · rename_i ht
    rw [if_neg ht]
    exact h.sees t v e

/-! ### a call; its end -/

def argL : List Value → Nat → List (Tmp × Value)
  | [], _ => []
  | v :: r, i => (i, v) :: argL r (i + 1)
theorem look_argL : ∀ (l : List Value) (i t : Nat) (v : Value), look (argL l i) t = some v → i ≤ t ∧ l[t - i]? = some v
  | [], i, t, v, h => by simp [argL, look] at h
  | x :: r, i, t, v, h => by
    rw [argL] at h
    by_cases hit : i = t
    · subst hit
      rw [look_cons_same] at h
      injection h with h
      simp [h]
    · rw [look_cons_ne _ _ hit] at h
      obtain ⟨h1, h2⟩ := look_argL r (i + 1) t v h
      refine ⟨by omega, ?_⟩
      rw [show t - i = (t - (i + 1)) + 1 by omega]
      simpa using h2

theorem sl_enter {f : FuncId} {fn : Func} {c : Code} {args : List Value} {w : World} {R : Ending → World → Prop} (hf : P.funcs[f]? = some fn) (hb : fn.body = some c) (hn : fn.ntmps = n) (ha : args.length ≤ n)
    (h : ∀ a, Sl n (argL args 0) a → c.wp P (bodyPost P fn R) a w) : Calls P f args.toArray w R := by
  refine calls_of_wp hf hb (h _ ⟨?_, rfl, fun t v e => ?_⟩)
  · simp [hn]
    omega
  · obtain ⟨_, h2⟩ := look_argL _ _ _ _ e
    have hl := (List.getElem?_eq_some_iff.1 h2).1
    simp only [Nat.sub_zero] at h2 hl
    simp only [Act.eval, Array.getD_eq_getD_getElem?, Array.getElem?_append, List.size_toArray, hl, if_true, List.getElem?_toArray, h2, Option.getD_some]

theorem sl_ret1 {fn : Func} {R : Ending → World → Prop} {w : World} {t : Tmp} {v : Value} (h : Sl n L a) (hr : fn.results = #[.tmp t]) (e : look L t = some v) (hR : R (.returned v) w) : bodyPost P fn R .ret a w :=
  bodyPost_ret (results_tmp hr _ _ _) h.nd (by have := h.sees t v e; simp only [Act.eval] at this; rw [this]; exact hR)
theorem sl_ret2 {fn : Func} {R : Ending → World → Prop} {w : World} {t u : Tmp} {v x : Value} (h : Sl n L a) (hr : fn.results = #[.tmp t, .tmp u]) (e : look L t = some v) (e' : look L u = some x) (hR : R (.returned (.tuple #[v, x])) w) : bodyPost P fn R .ret a w :=
  bodyPost_ret (results_tmp2 hr _ _ _) h.nd (by have h1 := h.sees t v e; have h2 := h.sees u x e'; simp only [Act.eval] at h1 h2; rw [h1, h2]; exact hR)

/-! ### parts of a function's text -/

/-- The part of the code at this path: 0 the first, 1 the second of two; 0 what stands within. -/
def part : List Nat → Code → Code
  | [], c => c
  | 0 :: p, .seq x _ => part p x
  | 1 :: p, .seq _ y => part p y
  | 0 :: p, .cond _ x _ => part p x
  | 1 :: p, .cond _ _ y => part p y
  | 0 :: p, .block _ c => part p c
  | 0 :: p, .loop c => part p c
  | 0 :: p, .scope c => part p c
  | _, _ => .skip
end
end Go.Proofs.YtefloadjolpgbaaGreatDoor

namespace Go.Proofs.YtefloadjolpgbaaGreatDoor
open Go.RowKit

/-- An operation's kind: a quiet one (behind so many writing ones at the least, so many at the most), or the writing one of this number. -/
inductive OpK where
  | quiet (lo hi : Nat)
  | writes (m : Nat)

def OpK.level : OpK → Nat
  | .quiet lo _ => lo
  | .writes m => m + 1
def OpK.bound : OpK → Nat
  | .quiet _ hi => hi
  | .writes m => m
def OpK.wnum : OpK → Option Nat
  | .quiet _ _ => none
  | .writes m => some m

abbrev Hist := Nat → Value
def upd (h : Hist) (m : Nat) (v : Value) : Hist := fun i => if i = m then v else h i
theorem upd_same (h : Hist) (m : Nat) (v : Value) : upd h m v m = v := by simp [upd]
theorem upd_ne (h : Hist) {m i : Nat} (v : Value) (e : i ≠ m) : upd h m v i = h i := by simp [upd, e]

/-- An operation waits for the one that writes a slot. -/
def edgeTo (ops : Array Oper) (o : Oper) (t : Tmp) : Bool :=
  o.after.toList.any fun e => Region.binds .any e && match ops[e.on]? with
    | some o' => match o'.dst with
      | some d => Nat.beq d t
      | none => false
    | none => false
theorem edgeTo_some {ops : Array Oper} {o : Oper} {t : Tmp} (h : edgeTo ops o t = true) : ∃ e ∈ o.after, Region.binds .any e = true ∧ (ops[e.on]?).bind (·.dst) = some t := by
  unfold edgeTo at h
  rw [List.any_eq_true] at h
  obtain ⟨e, he, hb⟩ := h
  rw [Bool.and_eq_true] at hb
  refine ⟨e, Array.mem_toList_iff.1 he, hb.1, ?_⟩
  have hb2 := hb.2
  rcases h1 : ops[e.on]? with _ | o'
  · rw [h1] at hb2; cases hb2
  · rw [h1] at hb2
    simp only at hb2
    rcases h2 : o'.dst with _ | d
    · rw [h2] at hb2; cases hb2
    · rw [h2] at hb2
      simp only at hb2
      rw [Option.bind_some, h2, Nat.eq_of_beq_eq_true hb2]
/-- The region's form. -/
def planOk (ops : Array Oper) (ds : List (Option Tmp)) (ks : List OpK) (N n : Nat) : Bool :=
  (ops.toList.map (·.dst) == ds) && (ds.filterMap id).all (· < n) && decide (ds.filterMap id).Nodup && (ks.length == ops.size) && (ks.filterMap (·.wnum) == List.range N) &&
  (ops.toList.zip ks).zipIdx.all fun ((o, kd), i) =>
    (o.after.toList.all fun e => !Region.binds .any e || e.on < i) &&
    ((o.looksAt ops).all fun t => !ds.contains (some t) || edgeTo ops o t || ops.toList.all fun o' => (match o'.dst with | some d => !Nat.beq d t | none => true) || o'.after.toList.any fun e => Region.binds .any e && e.on == i) &&
    (match o.guard with | none => true | some (j, _) => ((ops[j]?).bind (·.dst)).isSome) &&
    (match kd with
     | .writes 0 => true
     | .writes (m + 1) => o.after.toList.any fun e => Region.binds .any e && (match ks[e.on]? with | some k => decide (m + 1 ≤ k.level) | none => false)
     | .quiet lo hi =>
       (lo == 0 || o.after.toList.any fun e => Region.binds .any e && (match ks[e.on]? with | some k => decide (lo ≤ k.level) | none => false)) &&
       (decide (N ≤ hi) || (ops.toList.zip ks).zipIdx.any fun ((o', k'), j) => decide (i < j) && decide (k'.bound ≤ hi) && o'.after.toList.any fun e => Region.binds .any e && e.on == i))

/-- What a slot holds, as far as it is known: of the region's own what is told of it, of another what was known. -/
def valOf (L : List (Tmp × Value)) (h : Hist) (t : Tmp) : List (Option Tmp) → List (Hist → Value) → Option Value
  | d :: ds, f :: fs => match d with
    | some d => match Nat.beq d t with
      | true => some (f h)
      | false => valOf L h t ds fs
    | none => valOf L h t ds fs
  | _, _ => look L t

/-- What an operation sees in a slot: what the region has written there, if it waits for that; else what was there. -/
def seeOf (ops : Array Oper) (o : Oper) (L : List (Tmp × Value)) (h : Hist) (t : Tmp) (ds : List (Option Tmp)) (fs : List (Hist → Value)) : Option Value :=
  match edgeTo ops o t with
  | true => valOf L h t ds fs
  | false => look L t

def Seen5 (ops : Array Oper) (o : Oper) (ds : List (Option Tmp)) (fs : List (Hist → Value)) (L : List (Tmp × Value)) (h : Hist) (a : Act) : List Tmp → Prop
  | [] => True
  | t :: r => (∀ v, seeOf ops o L h t ds fs = some v → a.eval (.tmp t) = v) ∧ Seen5 ops o ds fs L h a r

theorem Seen5.at {ops : Array Oper} {o : Oper} {ds : List (Option Tmp)} {fs : List (Hist → Value)} {L : List (Tmp × Value)} {h : Hist} {a : Act} : ∀ {ts : List Tmp}, Seen5 ops o ds fs L h a ts → ∀ (t : Tmp) {v : Value}, ts.contains t = true → seeOf ops o L h t ds fs = some v → a.eval (.tmp t) = v
  | [], _, t, _, e, _ => by simp at e
  | s :: r, ⟨h1, h2⟩, t, v, e, hv => by
    by_cases hst : t = s
    · subst hst
      exact h1 v hv
    · refine Seen5.at h2 t ?_ hv
      simp [hst] at e
      simpa using e

theorem Act.eval_tmp (a : Act) (t : Tmp) : a.eval (.tmp t) = (a.tmps[t]?).getD undef := by
  simp [Act.eval]
theorem Seen5.see {ops : Array Oper} {o : Oper} {ds : List (Option Tmp)} {fs : List (Hist → Value)} {L : List (Tmp × Value)} {h : Hist} {a : Act} {ts : List Tmp} (hk : Seen5 ops o ds fs L h a ts) (t : Tmp) {v : Value} (e : ts.contains t = true) (hv : seeOf ops o L h t ds fs = some v) : (a.tmps[t]?).getD undef = v := by
  rw [← Act.eval_tmp]
  exact hk.at t e hv
theorem Sl.see {n : Nat} {L : List (Tmp × Value)} {a : Act} (h : Sl n L a) (t : Tmp) {v : Value} (e : look L t = some v) : (a.tmps[t]?).getD undef = v := by
  rw [← Act.eval_tmp]
  exact h.at t e

section
variable {P : Program}

/-- What is asked of one operation. -/
def Ob (P : Program) (ops : Array Oper) (ds : List (Option Tmp)) (fs : List (Hist → Value)) (L : List (Tmp × Value)) (Ph : Nat → Hist → World → Prop) (Q : Exit → Act → World → Prop) : OpK → (Hist → Value) → Oper → Prop
  | .quiet lo hi, f, o => (∀ h h' : Hist, (∀ i, i < lo → h i = h' i) → f h = f h') ∧ ∀ a w h k, lo ≤ k → k ≤ hi → Ph k h w → Seen5 ops o ds fs L h a (o.looksAt ops) →
    match o.guard with
    | none => o.wp P a w (fun a' w' => a' = a.put o.dst (f h) ∧ Ph k h w') Q
    | some (j, want) =>
      (a.eval (.tmp (((ops[j]?).bind (·.dst)).getD 0)) = .bool want → o.wp P a w (fun a' w' => a' = a.put o.dst (f h) ∧ Ph k h w') Q) ∧
      (a.eval (.tmp (((ops[j]?).bind (·.dst)).getD 0)) ≠ .bool want → f h = undef)
  | .writes m, f, o => f = (fun h => h m) ∧ ∀ a w h, Ph m h w → Seen5 ops o ds fs L h a (o.looksAt ops) →
    (match o.guard with | none => True | some (j, want) => a.eval (.tmp (((ops[j]?).bind (·.dst)).getD 0)) = .bool want) ∧
    o.wp P a w (fun a' w' => ∃ v, a' = a.put o.dst v ∧ Ph (m + 1) (upd h m v) w') Q

def Obs (P : Program) (ops : Array Oper) (ds : List (Option Tmp)) (fs : List (Hist → Value)) (L : List (Tmp × Value)) (Ph : Nat → Hist → World → Prop) (Q : Exit → Act → World → Prop) : List OpK → List (Hist → Value) → List Oper → Prop
  | k :: ks, f :: fs', o :: os => Ob P ops ds fs L Ph Q k f o ∧ Obs P ops ds fs L Ph Q ks fs' os
  | [], [], [] => True
  | _, _, _ => False

theorem obs_at {ops : Array Oper} {ds : List (Option Tmp)} {fs : List (Hist → Value)} {L : List (Tmp × Value)} {Ph : Nat → Hist → World → Prop} {Q : Exit → Act → World → Prop} :
    ∀ (ks : List OpK) (fs' : List (Hist → Value)) (os : List Oper), Obs P ops ds fs L Ph Q ks fs' os → ∀ (i : Nat) (o : Oper) (k : OpK), os[i]? = some o → ks[i]? = some k → ∃ f, fs'[i]? = some f ∧ Ob P ops ds fs L Ph Q k f o
  | k :: ks, f :: fs', o :: os, h, 0, o', k', ho, hk => by
    simp at ho hk
    subst ho hk
    exact ⟨f, rfl, h.1⟩
  | k :: ks, f :: fs', o :: os, h, i + 1, o', k', ho, hk => by
    simp at ho hk
    obtain ⟨f', h1, h2⟩ := obs_at ks fs' os h.2 i o' k' ho hk
    exact ⟨f', by simpa using h1, h2⟩
  | [], [], [], _, i, o', k', ho, _ => by simp at ho
  | [], [], _ :: _, h, _, _, _, _, _ => h.elim
  | [], _ :: _, _, h, _, _, _, _, _ => h.elim
  | _ :: _, [], _, h, _, _, _, _, _ => h.elim
  | _ :: _, _ :: _, [], h, _, _, _, _, _ => h.elim

theorem valOf_in {L : List (Tmp × Value)} {h : Hist} {t : Tmp} : ∀ (ds : List (Option Tmp)) (fs : List (Hist → Value)) (i : Nat) (f : Hist → Value), (ds.filterMap id).Nodup → ds[i]? = some (some t) → fs[i]? = some f → valOf L h t ds fs = some (f h)
  | [], _, i, f, _, hd, _ => by simp at hd
  | _ :: _, [], i, f, _, _, hf => by simp at hf
  | d :: ds, g :: fs, 0, f, _, hd, hf => by
    simp at hd hf
    subst hd hf
    simp [valOf]
  | d :: ds, g :: fs, i + 1, f, hn, hd, hf => by
    simp at hd hf
    cases d with
    | none => exact valOf_in ds fs i f (by simpa using hn) hd hf
    | some d =>
      rw [List.filterMap_cons_some (f := _root_.id) (a := some d) (b := d) rfl, List.nodup_cons] at hn
      have hne : d ≠ t := fun e => by
        subst e
        refine hn.1 (List.mem_filterMap.2 ⟨some d, List.mem_of_getElem? hd, rfl⟩)
      have hb : Nat.beq d t = false := by
        rcases hb : Nat.beq d t with _ | _
        · rfl
        · exact absurd (Nat.eq_of_beq_eq_true hb) hne
      simp only [valOf, hb]
      exact valOf_in ds fs i f hn.2 hd hf
theorem valOf_out {L : List (Tmp × Value)} {h : Hist} {t : Tmp} : ∀ (ds : List (Option Tmp)) (fs : List (Hist → Value)), some t ∉ ds → valOf L h t ds fs = look L t
  | [], _, _ => by simp [valOf]
  | _ :: _, [], _ => by simp [valOf]
  | d :: ds, g :: fs, hn => by
    simp only [List.mem_cons, not_or] at hn
    cases d with
    | none => exact valOf_out ds fs hn.2
    | some d =>
      have hb : Nat.beq d t = false := by
        rcases hb : Nat.beq d t with _ | _
        · rfl
        · exact absurd (by rw [Nat.eq_of_beq_eq_true hb]) hn.1
      simp only [valOf, hb]
      exact valOf_out ds fs hn.2

/-- The slots' values behind the region, ahead of what was known. -/
def laid5 (h : Hist) (L : List (Tmp × Value)) : List (Option Tmp) → List (Hist → Value) → List (Tmp × Value)
  | some d :: ds, f :: fs => (d, f h) :: laid5 h L ds fs
  | none :: ds, _ :: fs => laid5 h L ds fs
  | _, _ => L
theorem look_laid5 {L : List (Tmp × Value)} {h : Hist} {t : Tmp} : ∀ (ds : List (Option Tmp)) (fs : List (Hist → Value)), look (laid5 h L ds fs) t = valOf L h t ds fs
  | [], _ => by simp [laid5, valOf]
  | some d :: ds, [] => by simp [laid5, valOf]
  | none :: ds, [] => by simp [laid5, valOf]
  | some d :: ds, f :: fs => by
    simp only [laid5, valOf, look]
    cases Nat.beq d t
    · exact look_laid5 ds fs
    · rfl
  | none :: ds, f :: fs => by
    simp only [laid5, valOf]
    exact look_laid5 ds fs

structure Inv5 (ops : Array Oper) (ks : List OpK) (fs : List (Hist → Value)) (N : Nat) (Ph : Nat → Hist → World → Prop) (a0 : Act) (listed : Array Bool) (a : Act) (w : World) (k : Nat) (h : Hist) : Prop where
  lsize : listed.size = ops.size
  defers : a.defers = a0.defers
  size : a.tmps.size = a0.tmps.size
  out : ∀ t, (∀ j o, ops[j]? = some o → o.dst = some t → listed.getD j false = false) → a.eval (.tmp t) = a0.eval (.tmp t)
  inn : ∀ j o t f, ops[j]? = some o → fs[j]? = some f → o.dst = some t → listed.getD j false = true → a.eval (.tmp t) = f h
  kN : k ≤ N
  num : ∀ i m, ks[i]? = some (.writes m) → (listed.getD i false = true ↔ m < k)
  down : ∀ i o, ops[i]? = some o → listed.getD i false = true → ∀ e ∈ o.after, Region.binds .any e = true → listed.getD e.on false = true
  ph : Ph k h w

theorem sl_flow5 {id n N : Nat} {L : List (Tmp × Value)} {a0 : Act} {ops : List Oper} {w : World} {Q : Exit → Act → World → Prop}
    (ds : List (Option Tmp)) (ks : List OpK) (Ph : Nat → Hist → World → Prop) (fs : List (Hist → Value)) (hs : Sl n L a0) (hm : P.follows .mixedOrders = true) (hok : planOk ops.toArray ds ks N n = true) (hfl : fs.length = ks.length)
    (h0 : ∀ h, Ph 0 h w.drew) (hobs : Obs P ops.toArray ds fs L Ph Q ks fs ops)
    (hfin : ∀ w' a' h, Ph N h w' → Sl n (laid5 h L ds fs) a' → Q .normal a' w') :
    (Code.region id ops.toArray true).wp P Q a0 w := by
  refine wp_region_any hm ?_
  generalize hA : ops.toArray = opsA at *
  have hAl : ∀ i : Nat, opsA[i]? = ops[i]? := fun i => by rw [← hA]; simp
  have hL : opsA.toList = ops := by rw [← hA]
  clear hA
  simp only [planOk, Bool.and_eq_true, beq_iff_eq, decide_eq_true_eq, List.all_eq_true] at hok
  obtain ⟨⟨⟨⟨⟨hds, hlt⟩, hnd⟩, hkl⟩, hwr⟩, hform⟩ := hok
  rw [hL] at hds
  have dsAt : ∀ (i : Nat) (o : Oper), opsA[i]? = some o → ds[i]? = some o.dst := by
    intro i o ho
    rw [hAl] at ho
    rw [← hds, List.getElem?_map, ho]
    rfl
  have dsOf : ∀ (i : Nat) (t : Tmp), ds[i]? = some (some t) → ∃ o, opsA[i]? = some o ∧ o.dst = some t := by
    intro i t hi
    rw [← hds, List.getElem?_map] at hi
    obtain ⟨o, ho, hd⟩ := Option.map_eq_some_iff.1 hi
    exact ⟨o, by rw [hAl]; exact ho, hd⟩
  have form : ∀ (i : Nat) (o : Oper) (kd : OpK), opsA[i]? = some o → ks[i]? = some kd → (∀ e ∈ o.after, Region.binds .any e = true → e.on < i) ∧
      (∀ t ∈ o.looksAt opsA, some t ∈ ds → edgeTo opsA o t = true ∨ ∀ (j : Nat) (o' : Oper), opsA[j]? = some o' → o'.dst = some t → ∃ e ∈ o'.after, Region.binds .any e = true ∧ e.on = i) ∧ (∀ j b, o.guard = some (j, b) → ((opsA[j]?).bind (·.dst)).isSome = true) ∧
      (∀ m, kd = .writes (m + 1) → ∃ e ∈ o.after, Region.binds .any e = true ∧ ∃ k', ks[e.on]? = some k' ∧ m + 1 ≤ k'.level) ∧
      (∀ lo hi, kd = .quiet lo hi → (lo = 0 ∨ ∃ e ∈ o.after, Region.binds .any e = true ∧ ∃ k', ks[e.on]? = some k' ∧ lo ≤ k'.level) ∧
        (N ≤ hi ∨ ∃ (j : Nat) (o' : Oper) (k' : OpK), opsA[j]? = some o' ∧ ks[j]? = some k' ∧ i < j ∧ k'.bound ≤ hi ∧ ∃ e ∈ o'.after, Region.binds .any e = true ∧ e.on = i)) := by
    intro i o kd ho hk
    have hz : (opsA.toList.zip ks)[i]? = some (o, kd) := by
      rw [List.getElem?_zip_eq_some]
      exact ⟨by rw [Array.getElem?_toList]; exact ho, hk⟩
    have hmem : ((o, kd), i) ∈ (opsA.toList.zip ks).zipIdx := by
      rw [List.mk_mem_zipIdx_iff_getElem?]
      exact hz
    have hf := hform _ hmem
    simp only [Bool.and_eq_true, Bool.or_eq_true, Bool.not_eq_true', decide_eq_true_eq, List.any_eq_true, beq_iff_eq] at hf
    obtain ⟨⟨⟨h1, h2⟩, h3⟩, h4⟩ := hf
    refine ⟨fun e he hb => ?_, fun t ht htD => ?_, fun j b hg => ?_, fun m hm => ?_, fun lo hi hq => ?_⟩
    · rcases h1 e (Array.mem_toList_iff.2 he) with h' | h'
      · rw [hb] at h'; cases h'
      · exact h'
    · rcases h2 t ht with h' | h'
      · rcases h' with h' | h'
        · have : ds.contains (some t) = true := List.contains_iff_mem.2 htD
          rw [this] at h'; cases h'
        · exact .inl h'
      · refine .inr fun j o' ho' hd' => ?_
        rw [List.all_eq_true] at h'
        have hx := h' o' (by rw [Array.mem_toList_iff]; exact Array.mem_of_getElem? ho')
        rw [hd'] at hx
        have hbt : Nat.beq t t = true := Nat.beq_refl t
        simp only [hbt, Bool.not_true, Bool.false_or, List.any_eq_true, Bool.and_eq_true, beq_iff_eq] at hx
        obtain ⟨e, he, hb, hon⟩ := hx
        exact ⟨e, Array.mem_toList_iff.1 he, hb, hon⟩
    · rw [hg] at h3
      exact h3
    · subst hm
      simp only [List.any_eq_true, Bool.and_eq_true] at h4
      obtain ⟨e, he, hb, hw⟩ := h4
      refine ⟨e, Array.mem_toList_iff.1 he, hb, ?_⟩
      rcases hke : ks[e.on]? with _ | kk
      · rw [hke] at hw; cases hw
      · rw [hke] at hw
        exact ⟨kk, rfl, by simpa using hw⟩
    · subst hq
      simp only [Bool.and_eq_true, Bool.or_eq_true, beq_iff_eq, decide_eq_true_eq, List.any_eq_true] at h4
      refine ⟨?_, ?_⟩
      · rcases h4.1 with h' | ⟨e, he, hb, hw⟩
        · exact .inl h'
        · refine .inr ⟨e, Array.mem_toList_iff.1 he, hb, ?_⟩
          rcases hke : ks[e.on]? with _ | kk
          · rw [hke] at hw; cases hw
          · rw [hke] at hw
            exact ⟨kk, rfl, by simpa using hw⟩
      · rcases h4.2 with h' | ⟨⟨⟨o', k'⟩, j⟩, hj, ⟨hij, hbd⟩, e, he, hb, hon⟩
        · exact .inl h'
        · rw [List.mk_mem_zipIdx_iff_getElem?, List.getElem?_zip_eq_some] at hj
          exact .inr ⟨j, o', k', by rw [← Array.getElem?_toList]; exact hj.1, hj.2, hij, hbd, e, Array.mem_toList_iff.1 he, hb, hon⟩
  have kAt : ∀ (i : Nat) (o : Oper), opsA[i]? = some o → ∃ kd, ks[i]? = some kd := by
    intro i o ho
    have := (Array.getElem?_eq_some_iff.1 ho).1
    exact ⟨_, List.getElem?_eq_getElem (by omega)⟩
  have uniq : ∀ (i j : Nat) (t : Tmp), ds[i]? = some (some t) → ds[j]? = some (some t) → i = j := by
    have key : ∀ (l : List (Option Tmp)), (l.filterMap _root_.id).Nodup → ∀ (i j : Nat) (t : Tmp), l[i]? = some (some t) → l[j]? = some (some t) → i = j := by
      intro l
      induction l with
      | nil => intro _ i j t h; simp at h
      | cons x l ih =>
        intro hn i j t hi hj
        have hn' : (l.filterMap _root_.id).Nodup := by
          cases hx : x with
          | none => rw [hx, List.filterMap_cons_none (f := _root_.id) (a := none) rfl] at hn; exact hn
          | some d => rw [hx, List.filterMap_cons_some (f := _root_.id) (a := some d) (b := d) rfl] at hn; exact (List.nodup_cons.1 hn).2
        have hno : ∀ (k : Nat), x = some t → l[k]? = some (some t) → False := by
          intro k hx hk
          rw [hx, List.filterMap_cons_some (f := _root_.id) (a := some t) (b := t) rfl] at hn
          exact (List.nodup_cons.1 hn).1 (List.mem_filterMap.2 ⟨_, List.mem_of_getElem? hk, rfl⟩)
        match i, j, hi, hj with
        | 0, 0, _, _ => rfl
        | 0, j + 1, hi, hj =>
          simp only [List.getElem?_cons_zero, Option.some.injEq] at hi
          simp only [List.getElem?_cons_succ] at hj
          exact (hno j hi hj).elim
        | i + 1, 0, hi, hj =>
          simp only [List.getElem?_cons_zero, Option.some.injEq] at hj
          simp only [List.getElem?_cons_succ] at hi
          exact (hno i hj hi).elim
        | i + 1, j + 1, hi, hj =>
          simp only [List.getElem?_cons_succ] at hi hj
          rw [ih hn' i j t hi hj]
    exact key ds hnd
  -- what is listed is of a level that has been reached; what is not listed holds the number down
  have lev : ∀ {listed : Array Bool} {a : Act} {w : World} {k : Nat} {h : Hist}, Inv5 opsA ks fs N Ph a0 listed a w k h → ∀ (i : Nat) (o : Oper) (kd : OpK), opsA[i]? = some o → ks[i]? = some kd → listed.getD i false = true → kd.level ≤ k := by
    intro listed a w k h inv i
    induction i using Nat.strongRecOn with
    | _ i ih =>
      intro o kd ho hk hl
      cases kd with
      | writes m => exact (inv.num i m hk).1 hl
      | quiet lo hi =>
        obtain ⟨hb1, _, _, _, hq⟩ := form i o _ ho hk
        rcases (hq lo hi rfl).1 with h0 | ⟨e, he, hb, k', hk', hle⟩
        · show lo ≤ k
          omega
        · have hon := hb1 e he hb
          have hle' := inv.down i o ho hl e he hb
          have : e.on < opsA.size := by have := (List.getElem?_eq_some_iff.1 hk').1; omega
          have := ih e.on hon _ _ (Array.getElem?_eq_getElem this) hk' hle'
          show lo ≤ k
          omega
  have bnd : ∀ {listed : Array Bool} {a : Act} {w : World} {k : Nat} {h : Hist}, Inv5 opsA ks fs N Ph a0 listed a w k h → ∀ (c i : Nat) (o : Oper) (kd : OpK), opsA.size ≤ c + i → opsA[i]? = some o → ks[i]? = some kd → listed.getD i false = false → k ≤ kd.bound := by
    intro listed a w k h inv c
    induction c with
    | zero =>
      intro i o kd hc ho _ _
      have := (Array.getElem?_eq_some_iff.1 ho).1
      omega
    | succ c ih =>
      intro i o kd hc ho hk hl
      cases kd with
      | writes m =>
        rcases Nat.lt_or_ge m k with hlt | hge
        · have := (inv.num i m hk).2 hlt
          rw [hl] at this; cases this
        · exact hge
      | quiet lo hi =>
        obtain ⟨_, _, _, _, hq⟩ := form i o _ ho hk
        rcases (hq lo hi rfl).2 with h0 | ⟨j, o', k', ho', hk', hij, hbd, e, he, hb, hon⟩
        · have := inv.kN
          show k ≤ hi
          omega
        · have hj : listed.getD j false = false := by
            rcases hlj : listed.getD j false with _ | _
            · rfl
            · have := inv.down j o' ho' hlj e he hb
              rw [hon, hl] at this; cases this
          have := ih j o' k' (by omega) ho' hk' hj
          show k ≤ hi
          omega
  -- where nothing may come up, all has
  have done_ : ∀ listed : Array Bool, listed.size = opsA.size → Region.ready .any opsA listed = [] → ∀ j, j < opsA.size → listed.getD j false = true := by
    intro listed hls hr j
    induction j using Nat.strongRecOn with
    | _ j ih =>
      intro hj
      by_cases hl : listed.getD j false = true
      · exact hl
      · exfalso
        have hmem : j ∈ Region.ready .any opsA listed := by
          refine mem_ready.2 ⟨?_, opsA[j], Array.getElem?_eq_getElem hj, fun e he hb => ?_⟩
          · have : j < listed.size := by omega
            simp [this] at hl ⊢
            exact hl
          · obtain ⟨kd, hkd⟩ := kAt j _ (Array.getElem?_eq_getElem hj)
            have hon := (form j _ kd (Array.getElem?_eq_getElem hj) hkd).1 e he hb
            exact ih e.on hon (by omega)
        rw [hr] at hmem
        cases hmem
  -- the end
  have fin_ : ∀ (listed : Array Bool) (a : Act) (w : World) (k : Nat) (h : Hist), Inv5 opsA ks fs N Ph a0 listed a w k h → (∀ j, j < opsA.size → listed.getD j false = true) → Q .normal a w := by
    intro listed a w k h inv hall
    have hkN : k = N := by
      have h1 := inv.kN
      rcases Nat.lt_or_ge k N with hlt | hge
      · exfalso
        have hmr : k ∈ ks.filterMap (·.wnum) := by rw [hwr]; exact List.mem_range.2 hlt
        obtain ⟨kd, hkd, hw⟩ := List.mem_filterMap.1 hmr
        obtain ⟨i, hi⟩ := List.getElem?_of_mem hkd
        cases kd with
        | quiet _ _ => cases hw
        | writes m =>
          simp only [OpK.wnum, Option.some.injEq] at hw
          subst hw
          have hil := (List.getElem?_eq_some_iff.1 hi).1
          have := (inv.num i _ hi).1 (hall i (by omega))
          omega
      · omega
    subst hkN
    refine hfin w a h inv.ph ⟨by rw [inv.size, hs.size], by rw [inv.defers, hs.nd], fun t v e => ?_⟩
    rw [look_laid5] at e
    by_cases htd : some t ∈ ds
    · obtain ⟨i, hi⟩ := List.getElem?_of_mem htd
      obtain ⟨o, ho, hd⟩ := dsOf i t hi
      have hil := (Array.getElem?_eq_some_iff.1 ho).1
      have hf : fs[i]? = some (fs[i]'(by omega)) := List.getElem?_eq_getElem _
      rw [valOf_in ds fs i _ hnd hi hf] at e
      injection e with e
      rw [← e]
      exact inv.inn i o t _ ho hf hd (hall i hil)
    · rw [valOf_out ds fs htd] at e
      rw [inv.out t fun j o ho hd => (htd (List.mem_iff_getElem?.2 ⟨j, by rw [dsAt j o ho, hd]⟩)).elim]
      exact hs.sees t v e
  have main : ∀ (fuel : Nat) (listed : Array Bool) (a : Act) (w : World) (k : Nat) (h : Hist), Inv5 opsA ks fs N Ph a0 listed a w k h → (∀ j, j < opsA.size → listed.getD j false = false → 0 < fuel) → listed.toList.count false ≤ fuel → wpAny P .any opsA Q fuel listed a w := by
    intro fuel
    induction fuel with
    | zero =>
      intro listed a w k h inv h0 hc
      have hall : ∀ j, j < opsA.size → listed.getD j false = true := by
        intro j hj
        by_cases hl : listed.getD j false = true
        · exact hl
        · exact absurd (h0 j hj (by simpa using hl)) (by omega)
      refine ⟨?_, fin_ listed a w k h inv hall⟩
      rcases hr : Region.ready .any opsA listed with _ | ⟨i, r⟩
      · rfl
      · exfalso
        have hi : i ∈ Region.ready .any opsA listed := by rw [hr]; simp
        obtain ⟨hl, o, ho, _⟩ := mem_ready.1 hi
        have hil : i < opsA.size := (Array.getElem?_eq_some_iff.1 ho).1
        have := hall i hil
        have hil' : i < listed.size := by rw [inv.lsize]; exact hil
        simp [hil'] at hl this
        rw [hl] at this
        cases this
    | succ fuel ih =>
      intro listed a w k h inv _ hc
      refine ⟨fun hr => fin_ listed a w k h inv (done_ listed inv.lsize hr), fun i hi => ?_⟩
      obtain ⟨hl, o, ho, hedges⟩ := mem_ready.1 hi
      have hio : i < opsA.size := (Array.getElem?_eq_some_iff.1 ho).1
      have hil : i < listed.size := by rw [inv.lsize]; exact hio
      have hlf : listed.getD i false = false := by simp [hil] at hl ⊢; exact hl
      obtain ⟨kd, hkd⟩ := kAt i o ho
      obtain ⟨hback, hlook, hguard, hwprev, _⟩ := form i o kd ho hkd
      obtain ⟨f, hf, hob⟩ := obs_at ks fs ops hobs i o kd (by rw [← hAl]; exact ho) hkd
      have hseen : Seen5 opsA o ds fs L h a (o.looksAt opsA) := by
        have key : ∀ ts : List Tmp, (∀ t ∈ ts, t ∈ o.looksAt opsA) → Seen5 opsA o ds fs L h a ts := by
          intro ts
          induction ts with
          | nil => intro _; trivial
          | cons t r ihr =>
            intro hts
            refine ⟨fun v e => ?_, ihr fun u hu => hts u (by simp [hu])⟩
            unfold seeOf at e
            by_cases hed : edgeTo opsA o t = true
            · obtain ⟨e', he', hb', hd'⟩ := edgeTo_some hed
              rw [hed] at e
              simp only at e
              obtain ⟨oj, hoj, hdj⟩ := Option.bind_eq_some_iff.1 hd'
              have hjl := (Array.getElem?_eq_some_iff.1 hoj).1
              have hfj : fs[e'.on]? = some (fs[e'.on]'(by omega)) := List.getElem?_eq_getElem _
              rw [valOf_in ds fs e'.on _ hnd (by rw [dsAt e'.on oj hoj, hdj]) hfj] at e
              injection e with e
              rw [← e]
              exact inv.inn e'.on oj t _ hoj hfj hdj (hedges e' he' hb')
            · have hed' : edgeTo opsA o t = false := by simpa using hed
              rw [hed'] at e
              simp only at e
              rw [inv.out t fun j oj hoj hdj => ?_]
              · exact hs.sees t v e
              · rcases hlook t (hts t (by simp)) (List.mem_iff_getElem?.2 ⟨j, by rw [dsAt j oj hoj, hdj]⟩) with h' | h'
                · exact absurd h' hed
                · obtain ⟨e', he', hb', hon'⟩ := h' j oj hoj hdj
                  rcases hlj : listed.getD j false with _ | _
                  · rfl
                  · have := inv.down j oj hoj hlj e' he' hb'
                    rw [hon', hlf] at this
                    cases this
        exact key _ fun t ht => ht
      have hcount : (listed.setIfInBounds i true).toList.count false ≤ fuel := by
        have e : listed.toList = listed.toList.take i ++ false :: listed.toList.drop (i + 1) := by
          have hi2 : i < listed.toList.length := by simpa using hil
          have hg : listed.toList[i] = false := by
            simp [hil] at hlf
            simpa using hlf
          rw [← hg]
          conv => lhs; rw [← List.take_append_drop i listed.toList, List.drop_eq_getElem_cons hi2]
        have e' : (listed.setIfInBounds i true).toList = listed.toList.take i ++ true :: listed.toList.drop (i + 1) := by
          rw [Array.toList_setIfInBounds, List.set_eq_take_append_cons_drop, if_pos (by simpa using hil)]
        rw [e] at hc
        rw [e']
        simp only [List.count_append, List.count_cons] at hc ⊢
        simp at hc ⊢
        omega
      -- the next state
      have step : ∀ v w' k' h', (kd = .writes k → k' = k + 1) → ((∀ m, kd ≠ .writes m) → k' = k) → (∀ i, i < k → h i = h' i) → f h' = v → Ph k' h' w' → (∀ m, kd = .writes m → m = k) → wpAny P .any opsA Q fuel (listed.setIfInBounds i true) (a.put o.dst v) w' := by
        intro v w' k' h' hk1 hk2 hh hv hPh hmk
        have hk'N : k' ≤ N := by
          cases hkk : kd with
          | quiet _ _ => rw [hk2 (fun m e => by rw [hkk] at e; cases e)]; exact inv.kN
          | writes m =>
            have hmk' := hmk m hkk
            subst hmk'
            rw [hk1 hkk]
            have : m ∈ ks.filterMap (·.wnum) := List.mem_filterMap.2 ⟨_, List.mem_of_getElem? hkd, by rw [hkk]; rfl⟩
            rw [hwr] at this
            exact List.mem_range.1 this
        have hinv : Inv5 opsA ks fs N Ph a0 (listed.setIfInBounds i true) (a.put o.dst v) w' k' h' := by
          refine ⟨by simp [inv.lsize], ?_, by rw [Act.size_put, inv.size], ?_, ?_, hk'N, ?_, ?_, hPh⟩
          · cases h : o.dst <;> simp [Act.put, inv.defers]
          · intro t ht
            cases hd : o.dst with
            | none =>
              refine inv.out t fun j oj hoj hdj => ?_
              have hji : i ≠ j := fun e => by
                subst e
                rw [ho] at hoj
                injection hoj with hoj
                subst hoj
                rw [hd] at hdj
                cases hdj
              have := ht j oj hoj hdj
              rwa [getD_set_other false hji] at this
            | some d =>
              have htd : d ≠ t := fun e => by
                subst e
                have := ht i o ho hd
                rw [getD_set_same false hil] at this
                cases this
              rw [Act.eval_put_ne _ htd]
              refine inv.out t fun j oj hoj hdj => ?_
              have hji : i ≠ j := fun e => by
                subst e
                rw [ho] at hoj
                injection hoj with hoj
                subst hoj
                rw [hd] at hdj
                injection hdj with hdj
                exact htd hdj
              have := ht j oj hoj hdj
              rwa [getD_set_other false hji] at this
          · intro j oj t fj hoj hfj hdj hlj
            by_cases hji : i = j
            · subst hji
              rw [ho] at hoj
              injection hoj with hoj
              subst hoj
              rw [hf] at hfj
              injection hfj with hfj
              subst hfj
              have hts : t < a.tmps.size := by
                rw [inv.size, hs.size]
                have : t ∈ ds.filterMap _root_.id := List.mem_filterMap.2 ⟨some t, List.mem_iff_getElem?.2 ⟨i, by rw [dsAt i o ho, hdj]⟩, rfl⟩
                exact hlt t this
              rw [hdj, Act.eval_put_same _ hts, hv]
            · rw [getD_set_other false hji] at hlj
              have hvj := inv.inn j oj t fj hoj hfj hdj hlj
              have hst : fj h' = fj h := by
                obtain ⟨kj, hkj⟩ := kAt j oj hoj
                obtain ⟨fj', hfj', hobj⟩ := obs_at ks fs ops hobs j oj kj (by rw [← hAl]; exact hoj) hkj
                rw [hfj] at hfj'
                injection hfj' with hfj'
                subst hfj'
                have hlv := lev inv j oj kj hoj hkj hlj
                cases kj with
                | quiet lo hi => exact (hobj.1 h h' fun i hi => hh i (Nat.lt_of_lt_of_le hi hlv)).symm
                | writes m =>
                  have := hobj.1
                  rw [this]
                  exact (hh m hlv).symm
              rw [hst]
              cases hd : o.dst with
              | none => exact hvj
              | some d =>
                have : d ≠ t := fun e => by
                  subst e
                  exact hji (uniq i j d (by rw [dsAt i o ho, hd]) (by rw [dsAt j oj hoj, hdj]))
                rw [Act.eval_put_ne _ this]
                exact hvj
          · intro j m hj
            by_cases hji : i = j
            · subst hji
              rw [hkd] at hj
              injection hj with hj
              have := hmk m hj
              subst this
              rw [getD_set_same false hil, hk1 hj]
              simp
            · rw [getD_set_other false hji, inv.num j m hj]
              cases hkk : kd with
              | quiet _ _ => rw [hk2 (fun m e => by rw [hkk] at e; cases e)]
              | writes m' =>
                have := hmk m' hkk
                subst this
                rw [hk1 hkk]
                have hne : m ≠ m' := fun e => by
                  subst e
                  have hnd' : (ks.filterMap (·.wnum)).Nodup := by rw [hwr]; exact List.nodup_range
                  have key : ∀ (l : List OpK), (l.filterMap (·.wnum)).Nodup → ∀ i j : Nat, l[i]? = some (.writes m) → l[j]? = some (.writes m) → i = j := by
                    intro l
                    induction l with
                    | nil => intro _ i j h; simp at h
                    | cons x l ih =>
                      intro hn i j hi hj
                      have hn' : (l.filterMap (·.wnum)).Nodup := by
                        cases hx : x with
                        | quiet lo' hi' => rw [hx, List.filterMap_cons_none (f := fun x => OpK.wnum x) (a := .quiet lo' hi') rfl] at hn; exact hn
                        | writes d => rw [hx, List.filterMap_cons_some (f := fun x => OpK.wnum x) (a := .writes d) (b := d) rfl] at hn; exact (List.nodup_cons.1 hn).2
                      have hno : ∀ (k : Nat), x = .writes m → l[k]? = some (.writes m) → False := by
                        intro k hx hk
                        rw [hx, List.filterMap_cons_some (f := fun x => OpK.wnum x) (a := .writes m) (b := m) rfl] at hn
                        exact (List.nodup_cons.1 hn).1 (List.mem_filterMap.2 ⟨_, List.mem_of_getElem? hk, rfl⟩)
                      match i, j, hi, hj with
                      | 0, 0, _, _ => rfl
                      | 0, j + 1, hi, hj =>
                        simp only [List.getElem?_cons_zero, Option.some.injEq] at hi
                        simp only [List.getElem?_cons_succ] at hj
                        exact (hno j hi hj).elim
                      | i + 1, 0, hi, hj =>
                        simp only [List.getElem?_cons_zero, Option.some.injEq] at hj
                        simp only [List.getElem?_cons_succ] at hi
                        exact (hno i hj hi).elim
                      | i + 1, j + 1, hi, hj =>
                        simp only [List.getElem?_cons_succ] at hi hj
                        rw [ih hn' i j hi hj]
                  exact hji (key ks hnd' i j (by rw [hkd, hkk]) hj)
                omega
          · intro j oj hoj hlj e he hb
            by_cases hji : i = j
            · subst hji
              rw [ho] at hoj
              injection hoj with hoj
              subst hoj
              have hon := hback e he hb
              rw [getD_set_other false (by omega)]
              exact hedges e he hb
            · rw [getD_set_other false hji] at hlj
              have h1 := inv.down j oj hoj hlj e he hb
              by_cases hie : i = e.on
              · rw [← hie, getD_set_same false hil]
              · rw [getD_set_other false hie]
                exact h1
        refine ih (listed.setIfInBounds i true) (a.put o.dst v) w' k' h' hinv (fun j hj hlj => ?_) hcount
        rcases Nat.eq_zero_or_pos fuel with h0 | h0
        · exfalso
          have hz : (listed.setIfInBounds i true).toList.count false = 0 := by omega
          rw [List.count_eq_zero] at hz
          have hjl : j < (listed.setIfInBounds i true).size := by rw [Array.size_setIfInBounds, inv.lsize]; exact hj
          refine hz ?_
          have hget : (listed.setIfInBounds i true)[j] = false := by
            rw [Array.getD_eq_getD_getElem?, Array.getElem?_eq_getElem hjl] at hlj
            simpa using hlj
          rw [← hget]
          exact Array.mem_toList_iff.2 (Array.getElem_mem hjl)
        · exact h0
      -- a guard
      have gd : ∀ (j : Nat) (b : Bool), o.guard = some (j, b) → ∀ g, (opsA[j]?).bind (·.dst) = some g → (Region.wanted o (yielded opsA a.tmps) = true ↔ a.eval (.tmp g) = .bool b) := by
        intro j b hg g hgd
        have hy : yielded opsA a.tmps j = (match a.tmps[g]? with | some (.bool c) => some c | _ => none) := by
          unfold yielded
          rw [hgd]
          rfl
        unfold Region.wanted
        rw [hg]
        show (yielded opsA a.tmps j == some b) = true ↔ _
        rw [hy]
        rcases Nat.lt_or_ge g a.tmps.size with hgs | hgs
        · have : a.eval (.tmp g) = a.tmps[g] := by simp [Act.eval, hgs]
          rw [this, Array.getElem?_eq_getElem hgs]
          rcases hx : a.tmps[g] <;> simp
        · simp [Act.eval, Array.getElem?_eq_none hgs, undef]
      have hPh := inv.ph
      have hbd := bnd inv opsA.size i o kd (by omega) ho hkd hlf
      cases hkk : kd with
      | quiet lo hi =>
        rw [hkk] at hob hbd
        have hlo : lo ≤ k := by
          obtain ⟨_, _, _, _, hq⟩ := form i o kd ho hkd
          rcases (hq lo hi hkk).1 with h0 | ⟨e, he, hb, k', hk', hle⟩
          · omega
          · have hon := hback e he hb
            have hle' := hedges e he hb
            have : e.on < opsA.size := by omega
            have := lev inv e.on _ k' (Array.getElem?_eq_getElem this) hk' hle'
            omega
        have hop := hob.2 a w h k hlo hbd hPh hseen
        have step' : ∀ w', Ph k h w' → wpAny P .any opsA Q fuel (listed.setIfInBounds i true) (a.put o.dst (f h)) w' := fun w' hP =>
          step (f h) w' k h (fun e => by rw [hkk] at e; cases e) (fun _ => rfl) (fun _ _ => rfl) rfl hP (fun m e => by rw [hkk] at e; cases e)
        unfold wpOp
        simp only [ho]
        cases hg : o.guard with
        | none =>
          rw [hg] at hop
          simp only [Region.wanted, hg, if_true]
          refine .inl (Oper.wp_mono ?_ hop)
          rintro a' w' ⟨rfl, hP⟩
          exact step' w' hP
        | some jb =>
          obtain ⟨j, b⟩ := jb
          rw [hg] at hop
          obtain ⟨g, hgd⟩ := Option.isSome_iff_exists.1 (hguard j b hg)
          dsimp only at hop
          rw [hgd] at hop
          simp only [Option.getD_some] at hop
          by_cases hgv : a.eval (.tmp g) = .bool b
          · rw [if_pos ((gd j b hg g hgd).2 hgv)]
            refine .inl (Oper.wp_mono ?_ (hop.1 hgv))
            rintro a' w' ⟨rfl, hP⟩
            exact step' w' hP
          · rw [if_neg (fun e => hgv ((gd j b hg g hgd).1 e)), ← hop.2 hgv]
            exact step' w hPh
      | writes m =>
        rw [hkk] at hob hbd
        have hmk : m = k := by
          have h1 : k ≤ m := hbd
          cases m with
          | zero => omega
          | succ m' =>
            obtain ⟨e, he, hb, k', hk', hle⟩ := hwprev m' hkk
            have hon := hback e he hb
            have hsz : e.on < opsA.size := by omega
            have := lev inv e.on _ k' (Array.getElem?_eq_getElem hsz) hk' (hedges e he hb)
            omega
        subst hmk
        obtain ⟨hgok, hop⟩ := hob.2 a w h hPh hseen
        have hwant : Region.wanted o (yielded opsA a.tmps) = true := by
          cases hg : o.guard with
          | none => simp [Region.wanted, hg]
          | some jb =>
            obtain ⟨j, b⟩ := jb
            rw [hg] at hgok
            obtain ⟨g, hgd⟩ := Option.isSome_iff_exists.1 (hguard j b hg)
            dsimp only at hgok
            rw [hgd] at hgok
            exact (gd j b hg g hgd).2 hgok
        unfold wpOp
        simp only [ho]
        rw [if_pos hwant]
        refine .inl (Oper.wp_mono ?_ hop)
        rintro a' w' ⟨v, rfl, hP⟩
        refine step v w' (m + 1) (upd h m v) (fun _ => rfl) (fun hn => (hn m hkk).elim) (fun i hi => (upd_ne h v (by omega)).symm) ?_ hP (fun m' e => by rw [hkk] at e; injection e with e; exact e.symm)
        rw [hob.1]
        exact upd_same h m v
  refine main _ _ _ _ 0 (fun _ => undef) ⟨by simp, rfl, rfl, fun _ _ => rfl, fun j o t f ho hf hd hl => ?_, Nat.zero_le _, fun i m hi => ?_, fun i o ho hl => ?_, h0 _⟩ ?_ ?_
  · simp [Array.getD_eq_getD_getElem?, Array.getElem?_replicate] at hl
    split at hl <;> simp at hl
  · simp [Array.getD_eq_getD_getElem?, Array.getElem?_replicate]
    split <;> simp
  · simp [Array.getD_eq_getD_getElem?, Array.getElem?_replicate] at hl
    split at hl <;> simp at hl
  · intro j hj _
    omega
  · simp

/-! ### one operation -/
section
variable {ops : Array Oper} {ds : List (Option Tmp)} {fs : List (Hist → Value)} {L : List (Tmp × Value)} {Ph : Nat → Hist → World → Prop} {Q : Exit → Act → World → Prop} {lo hi m : Nat} {f : Hist → Value} {o : Oper}

theorem ob_quiet (hg : o.guard = none) (hop : ∀ a w h k, lo ≤ k → k ≤ hi → Ph k h w → Seen5 ops o ds fs L h a (o.looksAt ops) → ∀ K : Act → World → Prop, (∀ w', Ph k h w' → K (a.put o.dst (f h)) w') → o.wp P a w K Q)
    (hst : ∀ h h' : Hist, (∀ i, i < lo → h i = h' i) → f h = f h') : Ob P ops ds fs L Ph Q (.quiet lo hi) f o :=
  ⟨hst, fun a w h k h1 h2 h3 h4 => by
    rw [hg]
    exact hop a w h k h1 h2 h3 h4 _ fun w' hw => ⟨rfl, hw⟩⟩
theorem seen_guard {j g : Nat} {b : Bool} {h : Hist} {a : Act} (hg : o.guard = some (j, b)) (hj : (ops[j]?).bind (·.dst) = some g) (hs : Seen5 ops o ds fs L h a (o.looksAt ops)) {v : Value} (hv : seeOf ops o L h g ds fs = some v) : a.eval (.tmp g) = v := by
  refine hs.at g ?_ hv
  unfold Oper.looksAt
  rw [hg]
  simp only [hj]
  simp
theorem ob_want {j g : Nat} {b : Bool} (hg : o.guard = some (j, b)) (hj : (ops[j]?).bind (·.dst) = some g) (hv : ∀ h, seeOf ops o L h g ds fs = some (.bool b))
    (hop : ∀ a w h k, lo ≤ k → k ≤ hi → Ph k h w → Seen5 ops o ds fs L h a (o.looksAt ops) → ∀ K : Act → World → Prop, (∀ w', Ph k h w' → K (a.put o.dst (f h)) w') → o.wp P a w K Q)
    (hst : ∀ h h' : Hist, (∀ i, i < lo → h i = h' i) → f h = f h') : Ob P ops ds fs L Ph Q (.quiet lo hi) f o :=
  ⟨hst, fun a w h k h1 h2 h3 h4 => by
    rw [hg]
    simp only [hj]
    refine ⟨fun _ => hop a w h k h1 h2 h3 h4 _ fun w' hw => ⟨rfl, hw⟩, fun hne => absurd (seen_guard hg hj h4 (hv h)) hne⟩⟩
theorem ob_skip {j g : Nat} {b : Bool} (hg : o.guard = some (j, b)) (hj : (ops[j]?).bind (·.dst) = some g) (hv : ∀ h, seeOf ops o L h g ds fs = some (.bool (!b))) : Ob P ops ds fs L Ph Q (.quiet lo hi) (fun _ => undef) o :=
  ⟨fun _ _ _ => rfl, fun a w h k h1 h2 h3 h4 => by
    rw [hg]
    simp only [hj]
    refine ⟨fun he => ?_, fun _ => trivial⟩
    have := seen_guard hg hj h4 (hv h)
    simp only [Option.getD_some] at he
    rw [this] at he
    cases b <;> simp at he⟩
theorem ob_skip_u {j g : Nat} {b : Bool} (hg : o.guard = some (j, b)) (hj : (ops[j]?).bind (·.dst) = some g) (hv : ∀ h, seeOf ops o L h g ds fs = some undef) : Ob P ops ds fs L Ph Q (.quiet lo hi) (fun _ => undef) o :=
  ⟨fun _ _ _ => rfl, fun a w h k h1 h2 h3 h4 => by
    rw [hg]
    simp only [hj]
    refine ⟨fun he => ?_, fun _ => trivial⟩
    have := seen_guard hg hj h4 (hv h)
    simp only [Option.getD_some] at he
    rw [this] at he
    simp [undef] at he⟩
theorem ob_writes (hg : o.guard = none) (hop : ∀ a w h, Ph m h w → Seen5 ops o ds fs L h a (o.looksAt ops) → ∀ K : Act → World → Prop, (∀ v w', Ph (m + 1) (upd h m v) w' → K (a.put o.dst v) w') → o.wp P a w K Q) : Ob P ops ds fs L Ph Q (.writes m) (fun h => h m) o :=
  ⟨rfl, fun a w h h1 h2 => by
    rw [hg]
    exact ⟨trivial, hop a w h h1 h2 _ fun v w' hw => ⟨v, rfl, hw⟩⟩⟩
theorem ob_writes_want {j g : Nat} {b : Bool} (hg : o.guard = some (j, b)) (hj : (ops[j]?).bind (·.dst) = some g) (hv : ∀ h, seeOf ops o L h g ds fs = some (.bool b))
    (hop : ∀ a w h, Ph m h w → Seen5 ops o ds fs L h a (o.looksAt ops) → ∀ K : Act → World → Prop, (∀ v w', Ph (m + 1) (upd h m v) w' → K (a.put o.dst v) w') → o.wp P a w K Q) : Ob P ops ds fs L Ph Q (.writes m) (fun h => h m) o :=
  ⟨rfl, fun a w h h1 h2 => by
    rw [hg]
    simp only [hj]
    exact ⟨seen_guard hg hj h2 (hv h), hop a w h h1 h2 _ fun v w' hw => ⟨v, rfl, hw⟩⟩⟩
end
end
end Go.Proofs.YtefloadjolpgbaaGreatDoor

namespace Go.Proofs.YtefloadjolpgbaaGreatDoor
open Go.RowKit

theorem sl_nil {P : Program} {ops : Array Oper} {y : Code} {Q : Exit → Act → World → Prop} {a : Act} {w : World} (h : Code.wp P y Q a w) : wpList P ops (Exit.then (Code.wp P y Q) Q) [] a w := h
theorem sl_then {P : Program} {y : Code} {Q : Exit → Act → World → Prop} {a : Act} {w : World} (h : Code.wp P y Q a w) : Exit.then (Code.wp P y Q) Q .normal a w := h
theorem sl_blk {P : Program} {id : Nat} {y : Code} {Q Q' : Exit → Act → World → Prop} {a : Act} {w : World} (h : Code.wp P y Q a w) : Exit.inBlock id (Exit.then (Code.wp P y Q) Q') .normal a w := h
theorem sl_exit {id : Nat} {Q : Exit → Act → World → Prop} {a : Act} {w : World} (h : Q .normal a w) : Exit.inBlock id Q (.exit id) a w := by
  simp [Exit.inBlock, h]

/-- A region that turns nothing. -/
structure PhEq (W : World) (k : Nat) (h : Hist) (w : World) : Prop where
  eq : w = W
end Go.Proofs.YtefloadjolpgbaaGreatDoor

namespace Go.Proofs.YtefloadjolpgbaaGreatDoor
open Go.RowKit

def tokEq (places : Bool) (p q : Tok × Nat) : Bool := p.1.kind == q.1.kind && p.1.text == q.1.text && p.1.n == q.1.n && (!places || p.2 == q.2)
def sameL (places : Bool) (a b : List (Tok × Nat)) : Bool := decide (a.length = b.length) && (List.range a.length).all fun i => match a[i]?, b[i]? with
  | some p, some q => tokEq places p q
  | _, _ => true

theorem tkCells_length : ∀ ts : List (Tok × Nat), (tkCells ts).length = ts.length * 4
  | [] => rfl
  | p :: r => by
    have := tkCells_length r
    unfold tkCells at this ⊢
    rw [List.flatMap_cons, List.length_append, this, List.length_cons]
    simp [tkC]
    omega
theorem tkCells_get : ∀ (ts : List (Tok × Nat)) (i : Nat) (p : Tok × Nat) (j : Nat) (u : Value), ts[i]? = some p → (tkC p)[j]? = some u → (tkCells ts)[i * 4 + j]? = some u
  | [], i, p, j, u, h, _ => by simp at h
  | q :: r, 0, p, j, u, h, hu => by
    simp at h
    subst h
    have hj := (List.getElem?_eq_some_iff.1 hu).1
    unfold tkCells
    rw [List.flatMap_cons, Nat.zero_mul, Nat.zero_add, List.getElem?_append_left hj]
    exact hu
  | q :: r, i + 1, p, j, u, h, hu => by
    have := tkCells_get r i p j u (by simpa using h) hu
    unfold tkCells at this ⊢
    rw [List.flatMap_cons, List.getElem?_append_right (by simp [tkC]; omega)]
    rw [← this]
    congr 1
    simp [tkC]
    omega

theorem add_pos_ (a : Addr) (n j : Nat) : a.add (n + (j + 1)) = ⟨(a.add n).block, (a.add n).off + (j + 1), none⟩ := by
  rw [← add_of_add]
  simp [Addr.add]
theorem str_bne (a b : List UInt8) : ((str a).toList == (str b).toList) = (a == b) := by rw [str_toList, str_toList]

end Go.Proofs.YtefloadjolpgbaaGreatDoor

namespace Go.Proofs.YtefloadjolpgbaaGreatDoor
open Go.RowKit

def SameI (w0 : World) (A B : Option Addr) (n cA cB : Nat) (pl : Bool) (ts us : List (Tok × Nat)) (a : Act) (w : World) : Prop :=
  ∃ (k : Nat) (v6 : Value), k ≤ n ∧ Sl 72 [(0, .slice A n cA), (1, .slice B n cB), (2, .bool pl), (6, v6), (7, .int .i64 k)] a ∧ (∀ i p q, i < k → ts[i]? = some p → us[i]? = some q → tokEq pl p q = true) ∧ Mod Nil w0 w

end Go.Proofs.YtefloadjolpgbaaGreatDoor

namespace Go.Proofs.YtefloadjolpgbaaGreatDoor
open Go.RowKit

def awkL : List UInt8 := [120, 58, 61, 35, 97, 116, 58, 112, 117, 116, 58, 32, 115, 105, 122, 101, 46]
def awkT : List (Tok × Nat) := [(⟨1, [120], 0⟩, 0), (⟨7, [58, 61], 0⟩, 1), (⟨6, [97, 116, 58, 112, 117, 116, 58], 0⟩, 3), (⟨1, [115, 105, 122, 101], 0⟩, 12), (⟨7, [46], 0⟩, 16), (⟨0, [], 0⟩, 17)]
set_option maxRecDepth 100000 in
theorem awk_eq : allR awkL = .ok awkT := by kernel_rfl

theorem own_at {w : World} {base g n c : Nat} {e : TypeId} {size : Nat} {xs : List Value} (h : w.ownsRow base e size (.slice (some ⟨g, 0, none⟩) n c) n xs) {j : Nat} {u : Value} (hu : xs[j]? = some u) : w.cell? ⟨g, j, none⟩ = some u := by
  have h1 := h.cells (g := g) rfl j u hu
  have : (⟨g, 0, none⟩ : Addr).add j = ⟨g, j, none⟩ := by unfold Addr.add; split <;> simp_all
  rwa [this] at h1

set_option maxHeartbeats 1600000 in
set_option maxRecDepth 100000 in
theorem awake12_any (w : World) : Calls Tryz.prog 4 #[] w fun e w' => e = .returned (.bool true) ∧ Mod Nil w w' := by
  have HALL := Lib.hid (scAll_any awkL (by decide) w)
  rw [awk_eq] at HALL
  go_enter Tryz.func4, Tryz.ntmps4
  go_wp2_with fail
  refine HALL.out.mono ?_
  rintro e w2 ⟨⟨v, rfl, hown⟩, hm⟩
  obtain ⟨g, cap, rfl, hb, hlt⟩ := hown.form (by decide)
  have h0 := own_at hown (j := 0) rfl
  have h5 := own_at hown (j := 5) rfl
  have h8 := own_at hown (j := 8) rfl
  have h9 := own_at hown (j := 9) rfl
  have h23 := own_at hown (j := 23) rfl
  simp only at h0 h5 h8 h9 h23
  have HM := Lib.hid hm
  have e1 : (str [58, 61]).toList = [58, 61] := str_toList _
  have e2 : (str [97, 116, 58, 112, 117, 116, 58]).toList = [97, 116, 58, 112, 117, 116, 58] := str_toList _
  have hlen : awkT.length = 6 := rfl
  rw [hlen]
  clear hown hm
  go_wp2_with fail
  go_ret
  exact ⟨rfl, HM.out⟩
end Go.Proofs.YtefloadjolpgbaaGreatDoor

namespace Go.Proofs.YtefloadjolpgbaaGreatDoor
open Go.RowKit

/-- All's result as three values. -/
def AllV (B : Nat) (r : Except (Nat × Nat) (List (Tok × Nat))) (v : Value) (c p : Nat) (w' : World) : Prop := match r with
  | .error (c', p') => v = .slice none 0 0 ∧ c = c' ∧ p = p'
  | .ok ts => c = 0 ∧ p = 0 ∧ w'.ownsRow B 30 4 v ts.length (tkCells ts)
theorem AllIs.vals {B : Nat} {r : Except (Nat × Nat) (List (Tok × Nat))} {e : Ending} {w' : World} (h : AllIs B r e w') : ∃ v c p, e = .returned (.tuple #[v, .int .i64 (c : Nat), .int .i64 (p : Nat)]) ∧ AllV B r v c p w' := by
  unfold AllIs at h
  rcases r with ⟨c, p⟩ | ts
  · exact ⟨_, c, p, h, rfl, rfl, rfl⟩
  · obtain ⟨v, h1, h2⟩ := h
    exact ⟨v, 0, 0, h1, rfl, rfl, h2⟩

theorem AllV.keep {B : Nat} {r : Except (Nat × Nat) (List (Tok × Nat))} {v : Value} {c p : Nat} {w w' : World} (h : AllV B r v c p w) (hm : Mod Nil w w') : AllV B r v c p w' := by
  unfold AllV at h ⊢
  rcases r with ⟨c', p'⟩ | ts
  · exact h
  · exact ⟨h.1, h.2.1, own_keep h.2.2 hm fun _ _ h => h⟩

/-- A region with one call in it. -/
structure PhCall (W : World) (v : Value) (k : Nat) (h : Hist) (w : World) : Prop where
  s0 : k = 0 → w = W
  s1 : k = 1 → Mod Nil W w ∧ h 0 = v

def shiftT (c : Nat) (ts : List (Tok × Nat)) : List (Tok × Nat) := ts.map fun p => (p.1, p.2 + c)

theorem allR_len {l : List UInt8} {c p : Nat} (hl : l.length ≤ 4000) (h : allR l = .error (c, p)) : c = 40 ∧ allL l = .error p := by
  unfold allR at h
  rw [if_neg (by omega)] at h
  rcases ha : allL l with e | ts
  · rw [ha] at h
    injection h with h
    injection h with h1 h2
    exact ⟨h1.symm, by rw [h2]⟩
  · rw [ha] at h
    cases h
theorem allR_ok {l : List UInt8} {ts : List (Tok × Nat)} (h : allR l = .ok ts) : allL l = .ok ts := by
  unfold allR at h
  split at h
  · cases h
  · rcases ha : allL l with e | us
    · rw [ha] at h
      cases h
    · rw [ha] at h
      injection h with h
      rw [h]
/-- The tokens of the joined text. -/
theorem allR_join {A B : List UInt8} (hA : A.length ≤ 300) (hB : B.length ≤ 300) {ts : List (Tok × Nat)} (h : allR A = .ok ts) :
    ∃ ts0, ts = ts0 ++ [(⟨0, [], 0⟩, A.length)] ∧ allR (A ++ 10 :: B) = match allR B with
      | .ok us => .ok (ts0 ++ shiftT (A.length + 1) us)
      | .error (c, p) => .error (c, p + (A.length + 1)) := by
  obtain ⟨ts0, h1, h2⟩ := scanW_join B A.length A 0 (Nat.le_refl _) (allR_ok h)
  rw [Nat.zero_add] at h1 h2
  refine ⟨ts0, h1, ?_⟩
  have h3 : allL (A ++ 10 :: B) = pre ts0 (shiftE (A.length + 1) (allL B)) := by
    have h4 := scanW_shift (A.length + 1) B.length B 0 (Nat.le_refl _)
    rw [Nat.zero_add] at h4
    rw [h4] at h2
    exact h2
  unfold allR
  rw [if_neg (by simp; omega), if_neg (by omega), h3]
  rcases allL B with e | us
  · rfl
  · rfl
theorem sameL_refl (pl : Bool) (ts : List (Tok × Nat)) : sameL pl ts ts = true := by
  unfold sameL
  simp only [decide_true, Bool.true_and, List.all_eq_true]
  intro i _
  rcases ts[i]? with _ | p
  · rfl
  · simp [tokEq]
theorem scan_len : ∀ (n : Nat) (d : List UInt8) (a : Nat), d.length ≤ n → ∀ {ts : List (Tok × Nat)}, scanW d a = .ok ts → ts.length ≤ d.length + 1 ∧ ∀ p ∈ ts, p.2 ≤ a + d.length
  | n, d, a, hl, ts, h => by
    rw [scanW_eq] at h
    rcases hn : nxtL d with ⟨m, _ | ⟨t, k⟩⟩
    · rw [hn] at h
      cases h
    · rw [hn] at h
      simp only at h
      have he := nxtL_end hn
      split at h
      · injection h with h
        rw [← h]
        refine ⟨by simp, fun p hp => ?_⟩
        simp at hp
        rw [hp]
        show a + m ≤ _
        omega
      · rename_i hk
        have hk1 := he.2.resolve_left hk
        have hd : (d.drop (m + k)).length = d.length - (m + k) := List.length_drop
        cases n with
        | zero => omega
        | succ n =>
          rcases hx : scanW (d.drop (m + k)) (a + m + k) with e | us
          · rw [hx] at h
            cases h
          · rw [hx] at h
            injection h with h
            obtain ⟨h1, h2⟩ := scan_len n (d.drop (m + k)) (a + m + k) (by omega) hx
            rw [← h]
            refine ⟨by simp; omega, fun p hp => ?_⟩
            rcases List.mem_cons.1 hp with rfl | hp
            · show a + m ≤ _
              omega
            · have := h2 p hp
              omega
theorem allR_bd {l : List UInt8} {ts : List (Tok × Nat)} (h : allR l = .ok ts) : ts.length ≤ l.length + 1 ∧ ∀ p ∈ ts, p.2 ≤ l.length := by
  have := scan_len l.length l 0 (Nat.le_refl _) (allR_ok h)
  rw [Nat.zero_add] at this
  exact this

theorem own_rd {w : World} {B : Nat} {v : Value} {n : Nat} {xs : List Value} {e : TypeId} {size : Nat} (h : w.ownsRow B e size v n xs) (h0 : 0 < n) : ∃ ad c, v = .slice (some ad) n c ∧ n ≤ c ∧ ad.block < w.heap.size ∧ Rd All w (some ad) xs := by
  obtain ⟨_, _, hv2, hnc, _⟩ := own_slice h
  obtain ⟨g, cap, hv, hb, hlt⟩ := h.form h0
  subst hv
  injection hv2 with _ _ hc
  exact ⟨⟨g, 0, none⟩, cap, rfl, by rw [hc]; exact hnc, hlt, fun _ => ⟨_, rfl, trivial, hlt, h.cells (g := g) rfl⟩⟩

theorem allR_some {l : List UInt8} {ts : List (Tok × Nat)} (h : allR l = .ok ts) : 0 < ts.length := by
  obtain ⟨ts0, h1, _⟩ := scanW_join [] l.length l 0 (Nat.le_refl _) (allR_ok h)
  rw [h1]
  simp
theorem tkCells_app (a b : List (Tok × Nat)) : tkCells (a ++ b) = tkCells a ++ tkCells b := by simp [tkCells]
theorem tkCells_take (a b : List (Tok × Nat)) : (tkCells (a ++ b)).take (a.length * 4) = tkCells a := by
  rw [tkCells_app, ← tkCells_length a]
  simp

end Go.Proofs.YtefloadjolpgbaaGreatDoor
