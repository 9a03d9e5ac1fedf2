/- Walks on an abstract frame: what is known of its slots is a list. -/
import Derived.Test.YtpjpmlhnhcmacaaGreatDoorFlow4
namespace Go.Proofs.YtpjpmlhnhcmacaaGreatDoor
open Go.RowKit

def look : List (Tmp × Value) → Tmp → Option Value
  | [], _ => none
  | (k, v) :: r, t => match Nat.beq k t with
    | true => some v
    | false => look r t

def pick (L : List (Tmp × Value)) : List Tmp → List (Tmp × Value)
  | [] => []
  | t :: r => match look L t with
    | some v => (t, v) :: pick L r
    | none => pick L r

theorem look_cons_same (t : Tmp) (v : Value) (L : List (Tmp × Value)) : look ((t, v) :: L) t = some v := by
  simp [look]
theorem look_cons_ne {k t : Tmp} (v : Value) (L : List (Tmp × Value)) (h : k ≠ t) : look ((k, v) :: L) t = look L t := by
  have : Nat.beq k t = false := by
    rcases hb : Nat.beq k t with _ | _
    · rfl
    · exact absurd (Nat.eq_of_beq_eq_true hb) h
  simp [look, this]

/-- A frame of n slots, without deferred calls, of which so much is known. -/
structure Sl (n : Nat) (L : List (Tmp × Value)) (a : Act) : Prop where
  size : a.tmps.size = n
  nd : a.defers = []
  sees : ∀ t v, look L t = some v → a.eval (.tmp t) = v

section
variable {P : Program} {n : Nat} {L : List (Tmp × Value)} {a : Act}

theorem Sl.at (h : Sl n L a) (t : Tmp) {v : Value} (e : look L t = some v) : a.eval (.tmp t) = v := h.sees t v e

theorem Sl.put (h : Sl n L a) {d : Tmp} (hd : d < n) (v : Value) : Sl n ((d, v) :: L) (a.put (some d) v) := by
  refine ⟨by rw [Act.size_put, h.size], h.nd, fun t u e => ?_⟩
  by_cases hdt : d = t
  · subst hdt
    rw [look_cons_same] at e
    injection e with e
    rw [Act.eval_put_same _ (by rw [h.size]; exact hd), e]
  · rw [look_cons_ne _ _ hdt] at e
    rw [Act.eval_put_ne _ hdt, h.sees t u e]

theorem look_pick (ts : List Tmp) {t : Tmp} {v : Value} (h : look (pick L ts) t = some v) : look L t = some v := by
  induction ts with
  | nil => simp [pick, look] at h
  | cons s r ih =>
    rw [pick] at h
    rcases hs : look L s with _ | u
    · rw [hs] at h
      exact ih h
    · rw [hs] at h
      by_cases hst : s = t
      · subst hst
        rw [look_cons_same] at h
        rw [hs, h]
      · rw [look_cons_ne _ _ hst] at h
        exact ih h

/-- Of some slots alone. -/
theorem Sl.keep (h : Sl n L a) (ts : List Tmp) : Sl n (pick L ts) a := ⟨h.size, h.nd, fun t v e => h.sees t v (look_pick ts e)⟩

/-- One slot more. -/
theorem Sl.also (h : Sl n L a) {t : Tmp} {v : Value} (e : a.eval (.tmp t) = v) : Sl n ((t, v) :: L) a := ⟨h.size, h.nd, fun s u hs => by
  by_cases hts : t = s
  · subst hts
    rw [look_cons_same] at hs
    injection hs with hs
    rw [e, hs]
  · rw [look_cons_ne _ _ hts] at hs
    exact h.sees s u hs⟩

section ops
variable {ops : Array Oper} {Q : Exit → Act → World → Prop} {w : World} {rest : List Oper} {o : Oper} {d : Tmp}

/-- An operation that writes a slot. -/
theorem sl_op (h : Sl n L a) (hg : o.guard = none) (hd : o.dst = some d) (hn : d < n)
    (hop : ∀ K : Act → World → Prop, (∀ v w', (∀ a', Sl n ((d, v) :: L) a' → wpList P ops Q rest a' w') → K (a.put (some d) v) w') → o.wp P a w K Q) : wpList P ops Q (o :: rest) a w :=
  wpList_plain hg fun K hK => hop K fun v _ hk => hK _ _ (hk _ (h.put hn v))

/-- One that writes none. -/
theorem sl_op0 (h : Sl n L a) (hg : o.guard = none) (hd : o.dst = none)
    (hop : ∀ K : Act → World → Prop, (∀ w', (∀ a', Sl n L a' → wpList P ops Q rest a' w') → K a w') → o.wp P a w K Q) : wpList P ops Q (o :: rest) a w :=
  wpList_plain hg fun K hK => hop K fun _ hk => hK _ _ (hk _ h)

theorem sl_move {t : Tmp} {v : Value} (h : Sl n L a) (hg : o.guard = none) (hd : o.dst = some d) (ho : o.op = .move (.tmp t) ∨ o.op = .assign (.tmp t)) (hn : d < n) (hv : look L t = some v)
    (hk : ∀ a', Sl n ((d, v) :: L) a' → wpList P ops Q rest a' w) : wpList P ops Q (o :: rest) a w := by
  refine wpList_plain hg fun K hK => ?_
  have : K (a.put o.dst (a.eval (.tmp t))) w := by
    rw [h.sees t v hv, hd]
    exact hK _ _ (hk _ (h.put hn v))
  rcases ho with ho | ho
  · exact BigFrame.wp_move _ ho this
  · exact BigFrame.wp_assign _ ho this

theorem sl_const {v : Value} (h : Sl n L a) (hg : o.guard = none) (hd : o.dst = some d) (ho : o.op = .move (.const v) ∨ o.op = .assign (.const v)) (hn : d < n)
    (hk : ∀ a', Sl n ((d, v) :: L) a' → wpList P ops Q rest a' w) : wpList P ops Q (o :: rest) a w := by
  refine wpList_plain hg fun K hK => ?_
  have : K (a.put o.dst (a.eval (.const v))) w := by
    rw [hd]
    exact hK _ _ (hk _ (h.put hn v))
  rcases ho with ho | ho
  · exact BigFrame.wp_move _ ho this
  · exact BigFrame.wp_assign _ ho this

/-- A guarded operation that is wanted. -/
theorem sl_want {j g : Nat} {b : Bool} (h : Sl n L a) (hg : o.guard = some (j, b)) (hj : (ops[j]?).bind (·.dst) = some g) (hb : look L g = some (.bool b)) (hd : o.dst = some d) (hn : d < n)
    (hop : ∀ K : Act → World → Prop, (∀ v w', (∀ a', Sl n ((d, v) :: L) a' → wpList P ops Q rest a' w') → K (a.put (some d) v) w') → o.wp P a w K Q) : wpList P ops Q (o :: rest) a w := by
  have e := h.sees g _ hb
  have hw : Region.wanted o (yielded ops a.tmps) = true := by
    unfold Region.wanted yielded
    rw [hg]
    simp only [hj]
    have hgs : g < a.tmps.size := by
      rcases Nat.lt_or_ge g a.tmps.size with h | h
      · exact h
      · simp [Act.eval, Array.getElem?_eq_none h, undef] at e
    have : a.tmps[g]? = some (.bool b) := by
      simp [Act.eval, hgs] at e
      rw [Array.getElem?_eq_getElem hgs, e]
    simp [this]
  exact wpList_step fun K hK => by
    rw [if_pos hw]
    exact hop K fun v _ hk => hK _ _ (hk _ (h.put hn v))

/-- A guarded operation that is not. -/
theorem sl_skip {j g : Nat} {b : Bool} (h : Sl n L a) (hg : o.guard = some (j, b)) (hj : (ops[j]?).bind (·.dst) = some g) (hb : look L g = some (.bool (!b))) (hd : o.dst = some d) (hn : d < n)
    (hk : ∀ a', Sl n ((d, undef) :: L) a' → wpList P ops Q rest a' w) : wpList P ops Q (o :: rest) a w := by
  have e := h.sees g _ hb
  have hw : ¬ Region.wanted o (yielded ops a.tmps) = true := by
    unfold Region.wanted yielded
    rw [hg]
    simp only [hj]
    have hgs : g < a.tmps.size := by
      rcases Nat.lt_or_ge g a.tmps.size with h | h
      · exact h
      · simp [Act.eval, Array.getElem?_eq_none h, undef] at e
    have : a.tmps[g]? = some (.bool (!b)) := by
      simp [Act.eval, hgs] at e
      rw [Array.getElem?_eq_getElem hgs, e]
    simp [this]
  exact wpList_step fun K hK => by
    rw [if_neg hw, hd]
    exact hK _ _ (hk _ (h.put hn undef))
/-- A guarded operation whose guard was not carried out. -/
theorem sl_skip_u {j g : Nat} {b : Bool} (h : Sl n L a) (hg : o.guard = some (j, b)) (hj : (ops[j]?).bind (·.dst) = some g) (hb : look L g = some undef) (hd : o.dst = some d) (hn : d < n)
    (hk : ∀ a', Sl n ((d, undef) :: L) a' → wpList P ops Q rest a' w) : wpList P ops Q (o :: rest) a w := by
  have e := h.sees g _ hb
  have hw : ¬ Region.wanted o (yielded ops a.tmps) = true := by
    unfold Region.wanted yielded
    rw [hg]
    simp only [hj]
    rcases Nat.lt_or_ge g a.tmps.size with hgs | hgs
    · have : a.tmps[g]? = some undef := by
        simp [Act.eval, hgs] at e
        rw [Array.getElem?_eq_getElem hgs, e]
      simp [this, undef]
    · simp [Array.getElem?_eq_none hgs]
  exact wpList_step fun K hK => by
    rw [if_neg hw, hd]
    exact hK _ _ (hk _ (h.put hn undef))
end ops

/-! ### regions that draw their order -/

/-- The slots' values, ahead of what was known. -/
def laid (vs : Tmp → Value) : List Tmp → List (Tmp × Value) → List (Tmp × Value)
  | [], L => L
  | t :: r, L => (t, vs t) :: laid vs r L

theorem look_laid (vs : Tmp → Value) (D : List Tmp) (t : Tmp) : look (laid vs D L) t = if t ∈ D then some (vs t) else look L t := by
  induction D with
  | nil => simp [laid]
  | cons d r ih =>
    rw [laid]
    by_cases hdt : d = t
    · subst hdt
      rw [look_cons_same, if_pos (by simp)]
    · rw [look_cons_ne _ _ hdt, ih]
      by_cases ht : t ∈ r
      · rw [if_pos ht, if_pos (by simp [ht])]
      · rw [if_neg ht, if_neg (by simp [ht, Ne.symm hdt])]

theorem sl_flow {id : Nat} {ops : List Oper} {w : World} {Q : Exit → Act → World → Prop} (hm : P.follows .mixedOrders = true) {R : World → World → Prop}
    (VS : List (Tmp × St R)) (h : Sl n L a) (hok : flowOk ops.toArray (VS.map (·.1)) n = true) (hrefl : ∀ a, R a a) (htrans : ∀ a b c, R a b → R b c → R a c)
    (hops : FlowAll2 P ops.toArray VS Q a w.drew ops)
    (hfin : ∀ w' a' vs, R w.drew w' → HoldsAll vs w' VS → Sl n (laid vs (VS.map (·.1)) L) a' → Q .normal a' w') :
    (Code.region id ops.toArray true).wp P Q a w := by
  have hs := h.size
  have hok' := hok
  simp only [flowOk, Bool.and_eq_true, decide_eq_true_eq, List.all_eq_true] at hok'
  refine wp_flow2 hm VS (by rw [hs]; exact hok) hrefl htrans hops fun w' vs hR hV => hfin w' _ vs hR hV ?_
  have key := fun t => putAll_eval vs (VS.map (·.1)) a t hok'.1.2 (fun d hd => by rw [hs]; exact hok'.1.1.2 d hd)
  refine ⟨by rw [(key 0).2.1, hs], by rw [(key 0).2.2, h.nd], fun t v e => ?_⟩
  rw [look_laid] at e
  rw [(key t).1]
  split at e
  · rename_i ht
    rw [if_pos ht]
    injection e
  · rename_i ht
    rw [if_neg ht]
    exact h.sees t v e

theorem sl_flow3 {id : Nat} {ops : List Oper} {w : World} {Q : Exit → Act → World → Prop} (hm : P.follows .mixedOrders = true) {R : World → World → Prop}
    (wr : List Nat) (ms : List (Option Nat)) (VS : List (Tmp × St R)) (Ph : Nat → World → Prop) (h : Sl n L a) (hok : flowOk ops.toArray (VS.map (·.1)) n = true) (hch : chainOk ops.toArray wr = true) (hms : marksOk wr ms = true)
    (hrefl : ∀ a, R a a) (htrans : ∀ a b c, R a b → R b c → R a c) (h0 : Ph 0 w.drew)
    (hops : FlowAll4 P ops.toArray VS Q a w.drew Ph ms ops)
    (hfin : ∀ w' a' vs, R w.drew w' → Ph wr.length w' → HoldsAll vs w' VS → Sl n (laid vs (VS.map (·.1)) L) a' → Q .normal a' w') :
    (Code.region id ops.toArray true).wp P Q a w := by
  have hs := h.size
  have hok' := hok
  simp only [flowOk, Bool.and_eq_true, decide_eq_true_eq, List.all_eq_true] at hok'
  refine wp_flow3 hm wr ms VS Ph (by rw [hs]; exact hok) hch hms hrefl htrans h0 hops fun w' vs hR hP hV => hfin w' _ vs hR hP hV ?_
  have key := fun t => putAll_eval vs (VS.map (·.1)) a t hok'.1.2 (fun d hd => by rw [hs]; exact hok'.1.1.2 d hd)
  refine ⟨by rw [(key 0).2.1, hs], by rw [(key 0).2.2, h.nd], fun t v e => ?_⟩
  rw [look_laid] at e
  rw [(key t).1]
  split at e
  · rename_i ht
    rw [if_pos ht]
    injection e
  · rename_i ht
    rw [if_neg ht]
    exact h.sees t v e

/-! ### a call; its end -/

def argL : List Value → Nat → List (Tmp × Value)
  | [], _ => []
  | v :: r, i => (i, v) :: argL r (i + 1)
theorem look_argL : ∀ (l : List Value) (i t : Nat) (v : Value), look (argL l i) t = some v → i ≤ t ∧ l[t - i]? = some v
  | [], i, t, v, h => by simp [argL, look] at h
  | x :: r, i, t, v, h => by
    rw [argL] at h
    by_cases hit : i = t
    · subst hit
      rw [look_cons_same] at h
      injection h with h
      simp [h]
    · rw [look_cons_ne _ _ hit] at h
      obtain ⟨h1, h2⟩ := look_argL r (i + 1) t v h
      refine ⟨by omega, ?_⟩
      rw [show t - i = (t - (i + 1)) + 1 by omega]
      simpa using h2

theorem sl_enter {f : FuncId} {fn : Func} {c : Code} {args : List Value} {w : World} {R : Ending → World → Prop} (hf : P.funcs[f]? = some fn) (hb : fn.body = some c) (hn : fn.ntmps = n) (ha : args.length ≤ n)
    (h : ∀ a, Sl n (argL args 0) a → c.wp P (bodyPost P fn R) a w) : Calls P f args.toArray w R := by
  refine calls_of_wp hf hb (h _ ⟨?_, rfl, fun t v e => ?_⟩)
  · simp [hn]
    omega
  · obtain ⟨_, h2⟩ := look_argL _ _ _ _ e
    have hl := (List.getElem?_eq_some_iff.1 h2).1
    simp only [Nat.sub_zero] at h2 hl
    simp only [Act.eval, Array.getD_eq_getD_getElem?, Array.getElem?_append, List.size_toArray, hl, if_true, List.getElem?_toArray, h2, Option.getD_some]

theorem sl_ret1 {fn : Func} {R : Ending → World → Prop} {w : World} {t : Tmp} {v : Value} (h : Sl n L a) (hr : fn.results = #[.tmp t]) (e : look L t = some v) (hR : R (.returned v) w) : bodyPost P fn R .ret a w :=
  bodyPost_ret (results_tmp hr _ _ _) h.nd (by have := h.sees t v e; simp only [Act.eval] at this; rw [this]; exact hR)
theorem sl_ret2 {fn : Func} {R : Ending → World → Prop} {w : World} {t u : Tmp} {v x : Value} (h : Sl n L a) (hr : fn.results = #[.tmp t, .tmp u]) (e : look L t = some v) (e' : look L u = some x) (hR : R (.returned (.tuple #[v, x])) w) : bodyPost P fn R .ret a w :=
  bodyPost_ret (results_tmp2 hr _ _ _) h.nd (by have h1 := h.sees t v e; have h2 := h.sees u x e'; simp only [Act.eval] at h1 h2; rw [h1, h2]; exact hR)

/-! ### parts of a function's text -/

/-- The part of the code at this path: 0 the first, 1 the second of two; 0 what stands within. -/
def part : List Nat → Code → Code
  | [], c => c
  | 0 :: p, .seq x _ => part p x
  | 1 :: p, .seq _ y => part p y
  | 0 :: p, .cond _ x _ => part p x
  | 1 :: p, .cond _ _ y => part p y
  | 0 :: p, .block _ c => part p c
  | 0 :: p, .loop c => part p c
  | 0 :: p, .scope c => part p c
  | _, _ => .skip
end
end Go.Proofs.YtpjpmlhnhcmacaaGreatDoor
