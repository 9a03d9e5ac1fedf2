/- Parts of the proof of CodeRunsUpto, joined: Flow Flow3 Flow4 Abs. -/
import Derived.Test.YtefloadjolpgbaaDoorCodeRunsUptoj0
import Derived.Orders
namespace Go.Proofs.YtefloadjolpgbaaDoor
open Go.RowKit

section
variable {P : Program}

/-- What is known of a slot: of the region's own by V, of another what stood there. -/
def Known (V : Tmp → Value → World → Prop) (D : List Tmp) (a0 a : Act) (w : World) (t : Tmp) : Prop :=
  if t ∈ D then V t (a.eval (.tmp t)) w else a.eval (.tmp t) = a0.eval (.tmp t)

def KnownAll (V : Tmp → Value → World → Prop) (D : List Tmp) (a0 a : Act) (w : World) : List Tmp → Prop
  | [] => True
  | t :: r => Known V D a0 a w t ∧ KnownAll V D a0 a w r

theorem knownAll_of {V : Tmp → Value → World → Prop} {D : List Tmp} {a0 a : Act} {w : World} : ∀ (l : List Tmp), (∀ t, t ∈ l → Known V D a0 a w t) → KnownAll V D a0 a w l
  | [], _ => trivial
  | t :: r, h => ⟨h t (by simp), knownAll_of r fun u hu => h u (by simp [hu])⟩

/-- What is asked of one operation. -/
def FlowOp (P : Program) (ops : Array Oper) (V : Tmp → Value → World → Prop) (R : World → World → Prop) (Q : Exit → Act → World → Prop) (D : List Tmp) (a0 : Act) (w0 : World) (o : Oper) : Prop :=
  ∀ (a : Act) (w : World), R w0 w → KnownAll V D a0 a w (o.looksAt ops) →
    match o.guard with
    | none => o.wp P a w (fun a' w' => ∃ v, a' = a.put o.dst v ∧ R w w' ∧ ∀ d, o.dst = some d → V d v w') Q
    | some (j, want) =>
      (a.eval (.tmp (((ops[j]?).bind (·.dst)).getD 0)) = .bool want → o.wp P a w (fun a' w' => ∃ v, a' = a.put o.dst v ∧ R w w' ∧ ∀ d, o.dst = some d → V d v w') Q) ∧
      (a.eval (.tmp (((ops[j]?).bind (·.dst)).getD 0)) ≠ .bool want → ∀ d, o.dst = some d → V d undef w)

def FlowAll (P : Program) (ops : Array Oper) (V : Tmp → Value → World → Prop) (R : World → World → Prop) (Q : Exit → Act → World → Prop) (D : List Tmp) (a0 : Act) (w0 : World) : List Oper → Prop
  | [] => True
  | o :: r => FlowOp P ops V R Q D a0 w0 o ∧ FlowAll P ops V R Q D a0 w0 r

theorem flowAll_at {ops : Array Oper} {V : Tmp → Value → World → Prop} {R : World → World → Prop} {Q : Exit → Act → World → Prop} {D : List Tmp} {a0 : Act} {w0 : World} :
    ∀ (l : List Oper), FlowAll P ops V R Q D a0 w0 l → ∀ o, o ∈ l → FlowOp P ops V R Q D a0 w0 o
  | [], _, _, h => by cases h
  | x :: r, hf, o, h => by
    rcases List.mem_cons.1 h with rfl | h
    · exact hf.1
    · exact flowAll_at r hf.2 o h

/-- The region's form: its slots are D, each once, within n; what an operation looks at and the region writes is told by an edge; edges go back. -/
def flowOk (ops : Array Oper) (D : List Tmp) (n : Nat) : Bool :=
  (ops.toList.filterMap (·.dst) == D) && D.all (· < n) && decide D.Nodup &&
  ops.toList.zipIdx.all fun (o, i) =>
    (o.after.toList.all fun e => !Region.binds .any e || e.on < i) &&
    ((o.looksAt ops).all fun t => !D.contains t || o.after.toList.any fun e => Region.binds .any e && ((ops[e.on]?).bind (·.dst) == some t)) &&
    (match o.guard with | none => true | some (j, _) => ((ops[j]?).bind (·.dst)).isSome)

theorem Act.eval_put_same {a : Act} {d : Tmp} (v : Value) (h : d < a.tmps.size) : (a.put (some d) v).eval (.tmp d) = v := by
  simp [Act.eval, Act.put, h]
theorem Act.eval_put_ne {a : Act} {d t : Tmp} (v : Value) (h : d ≠ t) : (a.put (some d) v).eval (.tmp t) = a.eval (.tmp t) := by
  simp [Act.eval, Act.put, Array.getElem?_setIfInBounds_ne h]
theorem Act.size_put (a : Act) (d : Option Tmp) (v : Value) : (a.put d v).tmps.size = a.tmps.size := by
  cases d <;> simp [Act.put]

structure FlowInv (ops : Array Oper) (V : Tmp → Value → World → Prop) (R : World → World → Prop) (a0 : Act) (w0 : World) (listed : Array Bool) (a : Act) (w : World) : Prop where
  lsize : listed.size = ops.size
  world : R w0 w
  defers : a.defers = a0.defers
  size : a.tmps.size = a0.tmps.size
  out : ∀ t, (∀ j o, ops[j]? = some o → o.dst = some t → listed.getD j false = false) → a.eval (.tmp t) = a0.eval (.tmp t)
  inn : ∀ j o t, ops[j]? = some o → o.dst = some t → listed.getD j false = true → V t (a.eval (.tmp t)) w

theorem getD_set_same {l : Array Bool} {i : Nat} (b : Bool) (h : i < l.size) : (l.setIfInBounds i true).getD i b = true := by simp [h]
theorem getD_set_other {l : Array Bool} {i j : Nat} (b : Bool) (h : i ≠ j) : (l.setIfInBounds i true).getD j b = l.getD j b := by
  simp [Array.getD_eq_getD_getElem?, Array.getElem?_setIfInBounds_ne h]

theorem putAll_eval (vs : Tmp → Value) : ∀ (D : List Tmp) (a : Act) (t : Tmp), D.Nodup → (∀ d, d ∈ D → d < a.tmps.size) →
    (D.foldl (fun a d => a.put (some d) (vs d)) a).eval (.tmp t) = (if t ∈ D then vs t else a.eval (.tmp t)) ∧ (D.foldl (fun a d => a.put (some d) (vs d)) a).tmps.size = a.tmps.size ∧ (D.foldl (fun a d => a.put (some d) (vs d)) a).defers = a.defers
  | [], a, t, _, _ => by simp
  | d :: D, a, t, hn, hs => by
    obtain ⟨hd, hn'⟩ := List.nodup_cons.1 hn
    have h := putAll_eval vs D (a.put (some d) (vs d)) t hn' (fun e he => by rw [Act.size_put]; exact hs e (by simp [he]))
    refine ⟨?_, by rw [List.foldl_cons, h.2.1, Act.size_put], by rw [List.foldl_cons, h.2.2]; rfl⟩
    rw [List.foldl_cons, h.1]
    by_cases htd : t = d
    · subst htd
      rw [if_neg hd, if_pos (by simp), Act.eval_put_same _ (hs t (by simp))]
    · by_cases htD : t ∈ D
      · rw [if_pos htD, if_pos (by simp [htD])]
      · rw [if_neg htD, if_neg (by simp [htd, htD]), Act.eval_put_ne _ (Ne.symm htd)]

theorem act_ext {a b : Act} (hs : a.tmps.size = b.tmps.size) (hd : a.defers = b.defers) (h : ∀ t, a.eval (.tmp t) = b.eval (.tmp t)) : a = b := by
  obtain ⟨at_, ad⟩ := a
  obtain ⟨bt, bd⟩ := b
  simp only at hs hd
  subst hd
  congr 1
  apply Array.ext hs
  intro i h1 h2
  have := h i
  simpa [Act.eval, h1, h2] using this

theorem flow_any {ops : Array Oper} {V : Tmp → Value → World → Prop} {R : World → World → Prop} {Q : Exit → Act → World → Prop} {D : List Tmp} {a0 : Act} {w0 : World}
    (hok : flowOk ops D a0.tmps.size = true) (hrefl : ∀ a, R a a) (htrans : ∀ a b c, R a b → R b c → R a c) (hst : ∀ t v w w', V t v w → R w w' → V t v w')
    (hops : FlowAll P ops V R Q D a0 w0 ops.toList)
    (hfin : ∀ w' (vs : Tmp → Value), R w0 w' → (∀ t, t ∈ D → V t (vs t) w') → Q .normal (D.foldl (fun a d => a.put (some d) (vs d)) a0) w') :
    ∀ (fuel : Nat) (listed : Array Bool) (a : Act) (w : World), FlowInv ops V R a0 w0 listed a w → (∀ j, j < ops.size → listed.getD j false = false → 0 < fuel) → listed.toList.count false ≤ fuel → wpAny P .any ops Q fuel listed a w := by
  simp only [flowOk, Bool.and_eq_true, beq_iff_eq, decide_eq_true_eq, List.all_eq_true] at hok
  obtain ⟨⟨⟨hdst, hlt⟩, hnd⟩, hform⟩ := hok
  have form : ∀ i o, ops[i]? = some o → (∀ e ∈ o.after, Region.binds .any e = true → e.on < i) ∧ (∀ t ∈ o.looksAt ops, t ∈ D → ∃ e ∈ o.after, Region.binds .any e = true ∧ (ops[e.on]?).bind (·.dst) = some t) ∧ (∀ j b, o.guard = some (j, b) → ((ops[j]?).bind (·.dst)).isSome = true) := by
    intro i o ho
    have hmem : (o, i) ∈ ops.toList.zipIdx := by
      rw [List.mk_mem_zipIdx_iff_getElem?, Array.getElem?_toList]
      exact ho
    have h := hform (o, i) hmem
    simp only [Bool.and_eq_true, Bool.or_eq_true, Bool.not_eq_true', decide_eq_true_eq, List.any_eq_true, beq_iff_eq] at h
    refine ⟨fun e he hb => ?_, fun t ht htD => ?_, fun j b hg => ?_⟩
    · rcases h.1.1 e (Array.mem_toList_iff.2 he) with h' | h'
      · rw [hb] at h'; cases h'
      · exact h'
    · rcases h.1.2 t ht with h' | h'
      · have : D.contains t = true := List.contains_iff_mem.2 htD
        rw [this] at h'; cases h'
      · obtain ⟨e, he, hb, hd⟩ := h'
        exact ⟨e, Array.mem_toList_iff.1 he, hb, hd⟩
    · have h2 := h.2
      rw [hg] at h2
      exact h2
  have memD : ∀ t, t ∈ D ↔ ∃ (j : Nat) (o : Oper), ops[j]? = some o ∧ o.dst = some t := by
    intro t
    rw [← hdst, List.mem_filterMap]
    constructor
    · rintro ⟨o, ho, hd⟩
      obtain ⟨j, hj⟩ := List.getElem?_of_mem ho
      exact ⟨j, o, by rw [← Array.getElem?_toList]; exact hj, hd⟩
    · rintro ⟨j, o, ho, hd⟩
      exact ⟨o, Array.mem_toList_iff.2 (Array.mem_of_getElem? ho), hd⟩
  have uniq : ∀ (i j : Nat) (o o' : Oper) (t : Tmp), ops[i]? = some o → ops[j]? = some o' → o.dst = some t → o'.dst = some t → i = j := by
    have key : ∀ (l : List Oper), (l.filterMap (·.dst)).Nodup → ∀ (i j : Nat) (o o' : Oper) (t : Tmp), l[i]? = some o → l[j]? = some o' → o.dst = some t → o'.dst = some t → i = j := by
      intro l
      induction l with
      | nil => intro _ i j o o' t h; simp at h
      | cons x l ih =>
        intro hn i j o o' t hi hj hd hd'
        have hn' : (l.filterMap (·.dst)).Nodup := by
          cases hx : x.dst with
          | none => rw [List.filterMap_cons_none hx] at hn; exact hn
          | some d => rw [List.filterMap_cons_some hx] at hn; exact (List.nodup_cons.1 hn).2
        have hno : ∀ (k : Nat) (y : Oper), x.dst = some t → l[k]? = some y → y.dst = some t → False := by
          intro k y hx hk hy
          rw [List.filterMap_cons_some hx] at hn
          exact (List.nodup_cons.1 hn).1 (List.mem_filterMap.2 ⟨y, List.mem_of_getElem? hk, hy⟩)
        match i, j, hi, hj with
        | 0, 0, _, _ => rfl
        | 0, j + 1, hi, hj =>
          simp only [List.getElem?_cons_zero, Option.some.injEq] at hi
          simp only [List.getElem?_cons_succ] at hj
          subst hi
          exact (hno j o' hd hj hd').elim
        | i + 1, 0, hi, hj =>
          simp only [List.getElem?_cons_zero, Option.some.injEq] at hj
          simp only [List.getElem?_cons_succ] at hi
          subst hj
          exact (hno i o hd' hi hd).elim
        | i + 1, j + 1, hi, hj =>
          simp only [List.getElem?_cons_succ] at hi hj
          rw [ih hn' i j o o' t hi hj hd hd']
    intro i j o o' t hi hj
    exact key ops.toList (by rw [hdst]; exact hnd) i j o o' t (by rw [Array.getElem?_toList]; exact hi) (by rw [Array.getElem?_toList]; exact hj)
  -- where nothing may come up, all has
  have done_ : ∀ listed : Array Bool, listed.size = ops.size → Region.ready .any ops listed = [] → ∀ j, j < ops.size → listed.getD j false = true := by
    intro listed hls hr j
    induction j using Nat.strongRecOn with
    | _ j ih =>
      intro hj
      by_cases hl : listed.getD j false = true
      · exact hl
      · exfalso
        have hmem : j ∈ Region.ready .any ops listed := by
          refine mem_ready.2 ⟨?_, ops[j], Array.getElem?_eq_getElem hj, fun e he hb => ?_⟩
          · have : j < listed.size := by omega
            simp [this] at hl ⊢
            exact hl
          · have hon := (form j _ (Array.getElem?_eq_getElem hj)).1 e he hb
            exact ih e.on hon (by omega)
        rw [hr] at hmem
        cases hmem
  -- the end
  have fin_ : ∀ (listed : Array Bool) (a : Act) (w : World), FlowInv ops V R a0 w0 listed a w → (∀ j, j < ops.size → listed.getD j false = true) → Q .normal a w := by
    intro listed a w inv hall
    have hV : ∀ t, t ∈ D → V t (a.eval (.tmp t)) w := by
      intro t ht
      obtain ⟨j, o, ho, hd⟩ := (memD t).1 ht
      exact inv.inn j o t ho hd (hall j (Array.getElem?_eq_some_iff.1 ho).1)
    have h := hfin w (fun t => a.eval (.tmp t)) inv.world hV
    have e : D.foldl (fun b d => b.put (some d) (a.eval (.tmp d))) a0 = a := by
      have hp := fun t => putAll_eval (fun d => a.eval (.tmp d)) D a0 t hnd (fun d hd => by simpa using hlt d hd)
      refine act_ext (by rw [(hp 0).2.1, inv.size]) (by rw [(hp 0).2.2, inv.defers]) fun t => ?_
      rw [(hp t).1]
      split
      · rfl
      · rename_i ht
        refine (inv.out t fun j o ho hd => ?_).symm
        exact (ht ((memD t).2 ⟨j, o, ho, hd⟩)).elim
    rw [e] at h
    exact h
  intro fuel
  induction fuel with
  | zero =>
    intro listed a w inv h0 hc
    have hall : ∀ j, j < ops.size → listed.getD j false = true := by
      intro j hj
      by_cases hl : listed.getD j false = true
      · exact hl
      · exact absurd (h0 j hj (by simpa using hl)) (by omega)
    refine ⟨?_, fin_ listed a w inv hall⟩
    rcases hr : Region.ready .any ops listed with _ | ⟨i, r⟩
    · rfl
    · exfalso
      have hi : i ∈ Region.ready .any ops listed := by rw [hr]; simp
      obtain ⟨hl, o, ho, _⟩ := mem_ready.1 hi
      have hil : i < ops.size := (Array.getElem?_eq_some_iff.1 ho).1
      have := hall i hil
      have hil' : i < listed.size := by rw [inv.lsize]; exact hil
      simp [hil'] at hl this
      rw [hl] at this
      cases this
  | succ fuel ih =>
    intro listed a w inv _ hc
    refine ⟨fun hr => fin_ listed a w inv (done_ listed inv.lsize hr), fun i hi => ?_⟩
    obtain ⟨hl, o, ho, hedges⟩ := mem_ready.1 hi
    have hio : i < ops.size := (Array.getElem?_eq_some_iff.1 ho).1
    have hil : i < listed.size := by rw [inv.lsize]; exact hio
    have hlf : listed.getD i false = false := by simp [hil] at hl ⊢; exact hl
    obtain ⟨hback, hlook, hguard⟩ := form i o ho
    have hk : KnownAll V D a0 a w (o.looksAt ops) := knownAll_of _ fun t ht => by
      unfold Known
      split
      · rename_i htD
        obtain ⟨e, he, hb, hd⟩ := hlook t ht htD
        obtain ⟨oj, hoj, hdj⟩ := Option.bind_eq_some_iff.1 hd
        exact inv.inn e.on oj t hoj hdj (hedges e he hb)
      · rename_i htD
        exact inv.out t fun j oj hoj hdj => (htD ((memD t).2 ⟨j, oj, hoj, hdj⟩)).elim
    have hop := flowAll_at ops.toList hops o (Array.mem_toList_iff.2 (Array.mem_of_getElem? ho)) a w inv.world hk
    have hcount : (listed.setIfInBounds i true).toList.count false ≤ fuel := by
      have e : listed.toList = listed.toList.take i ++ false :: listed.toList.drop (i + 1) := by
        have hi2 : i < listed.toList.length := by simpa using hil
        have hg : listed.toList[i] = false := by
          simp [hil] at hlf
          simpa using hlf
        rw [← hg]
        conv => lhs; rw [← List.take_append_drop i listed.toList, List.drop_eq_getElem_cons hi2]
      have e' : (listed.setIfInBounds i true).toList = listed.toList.take i ++ true :: listed.toList.drop (i + 1) := by
        rw [Array.toList_setIfInBounds, List.set_eq_take_append_cons_drop, if_pos (by simpa using hil)]
      rw [e] at hc
      rw [e']
      simp only [List.count_append, List.count_cons] at hc ⊢
      simp at hc ⊢
      omega
    have step : ∀ v w', R w w' → (∀ d, o.dst = some d → V d v w') → wpAny P .any ops Q fuel (listed.setIfInBounds i true) (a.put o.dst v) w' := by
      intro v w' hR hv
      have hinv : FlowInv ops V R a0 w0 (listed.setIfInBounds i true) (a.put o.dst v) w' := by
        refine ⟨by simp [inv.lsize], htrans _ _ _ inv.world hR, ?_, by rw [Act.size_put, inv.size], ?_, ?_⟩
        · cases h : o.dst <;> simp [Act.put, inv.defers]
        · intro t ht
          cases hd : o.dst with
          | none =>
            refine inv.out t fun j oj hoj hdj => ?_
            have hji : i ≠ j := fun e => by
              subst e
              rw [ho] at hoj
              injection hoj with hoj
              subst hoj
              rw [hd] at hdj
              cases hdj
            have := ht j oj hoj hdj
            rwa [getD_set_other false hji] at this
          | some d =>
            have htd : d ≠ t := fun e => by
              subst e
              have := ht i o ho hd
              rw [getD_set_same false hil] at this
              cases this
            rw [Act.eval_put_ne _ htd]
            refine inv.out t fun j oj hoj hdj => ?_
            have hji : i ≠ j := fun e => by
              subst e
              rw [ho] at hoj
              injection hoj with hoj
              subst hoj
              rw [hd] at hdj
              injection hdj with hdj
              exact htd hdj
            have := ht j oj hoj hdj
            rwa [getD_set_other false hji] at this
        · intro j oj t hoj hdj hlj
          by_cases hji : i = j
          · subst hji
            rw [ho] at hoj
            injection hoj with hoj
            subst hoj
            rw [hdj, Act.eval_put_same _ (by rw [inv.size]; have := hlt t ((memD t).2 ⟨i, o, ho, hdj⟩); simpa using this)]
            exact hv t hdj
          · rw [getD_set_other false hji] at hlj
            have hvj := hst t _ _ _ (inv.inn j oj t hoj hdj hlj) hR
            cases hd : o.dst with
            | none => exact hvj
            | some d =>
              have : d ≠ t := fun e => by
                subst e
                exact hji (uniq i j o oj d ho hoj hd hdj)
              rw [Act.eval_put_ne _ this]
              exact hvj
      refine ih (listed.setIfInBounds i true) (a.put o.dst v) w' hinv (fun j hj hlj => ?_) hcount
      rcases Nat.eq_zero_or_pos fuel with h0 | h0
      · exfalso
        have hz : (listed.setIfInBounds i true).toList.count false = 0 := by omega
        rw [List.count_eq_zero] at hz
        have hjl : j < (listed.setIfInBounds i true).size := by rw [Array.size_setIfInBounds, inv.lsize]; exact hj
        refine hz ?_
        have hget : (listed.setIfInBounds i true)[j] = false := by
          rw [Array.getD_eq_getD_getElem?, Array.getElem?_eq_getElem hjl] at hlj
          simpa using hlj
        rw [← hget]
        exact Array.mem_toList_iff.2 (Array.getElem_mem hjl)
      · exact h0
    unfold wpOp
    simp only [ho]
    cases hg : o.guard with
    | none =>
      rw [hg] at hop
      simp only [Region.wanted, hg, if_true]
      refine .inl (Oper.wp_mono ?_ hop)
      rintro a' w' ⟨v, rfl, hR, hv⟩
      exact step v w' hR hv
    | some jb =>
      obtain ⟨j, b⟩ := jb
      rw [hg] at hop
      have hsome := hguard j b hg
      obtain ⟨gd, hgd⟩ := Option.isSome_iff_exists.1 hsome
      dsimp only at hop
      rw [hgd] at hop
      simp only [Option.getD_some] at hop
      have hy : yielded ops a.tmps j = (match a.tmps[gd]? with | some (.bool c) => some c | _ => none) := by
        unfold yielded
        rw [hgd]
        rfl
      by_cases hgv : a.eval (.tmp gd) = .bool b
      · have hop := hop.1 hgv
        have hgs : gd < a.tmps.size := by
          rcases Nat.lt_or_ge gd a.tmps.size with h | h
          · exact h
          · simp [Act.eval, Array.getElem?_eq_none h, undef] at hgv
        have : a.tmps[gd]? = some (.bool b) := by
          simp [Act.eval, hgs] at hgv
          rw [Array.getElem?_eq_getElem hgs, hgv]
        have hw : Region.wanted o (yielded ops a.tmps) = true := by
          unfold Region.wanted
          rw [hg]
          show (yielded ops a.tmps j == some b) = true
          rw [hy, this]
          simp
        rw [if_pos hw]
        refine .inl (Oper.wp_mono ?_ hop)
        rintro a' w' ⟨v, rfl, hR, hv⟩
        exact step v w' hR hv
      · have hop := hop.2 hgv
        have : (yielded ops a.tmps j == some b) = false := by
          rw [hy]
          rcases hx : a.tmps[gd]? with _ | x
          · rfl
          · cases x <;> try rfl
            rename_i c
            simp only [beq_eq_false_iff_ne, ne_eq, Option.some.injEq]
            intro hcb
            subst hcb
            refine hgv ?_
            simp [Act.eval, hx]
        have hw : ¬ Region.wanted o (yielded ops a.tmps) = true := by
          unfold Region.wanted
          rw [hg]
          show ¬ (yielded ops a.tmps j == some b) = true
          rw [this]
          simp
        rw [if_neg hw]
        exact step undef w (hrefl w) hop

/-- A region that draws its order, operation by operation. -/
theorem wp_flow {id : Nat} {ops : List Oper} {a0 : Act} {w : World} {Q : Exit → Act → World → Prop} (hm : P.follows .mixedOrders = true)
    (D : List Tmp) (V : Tmp → Value → World → Prop) (R : World → World → Prop)
    (hok : flowOk ops.toArray D a0.tmps.size = true) (hrefl : ∀ a, R a a) (htrans : ∀ a b c, R a b → R b c → R a c) (hst : ∀ t v w w', V t v w → R w w' → V t v w')
    (hops : FlowAll P ops.toArray V R Q D a0 w.drew ops)
    (hfin : ∀ w' (vs : Tmp → Value), R w.drew w' → (∀ t, t ∈ D → V t (vs t) w') → Q .normal (D.foldl (fun a d => a.put (some d) (vs d)) a0) w') :
    (Code.region id ops.toArray true).wp P Q a0 w := by
  refine wp_region_any hm ?_
  refine flow_any (R := R) (V := V) (D := D) (a0 := a0) (w0 := w.drew) hok hrefl htrans hst (by simpa using hops) hfin _ _ _ _ ?_ ?_ ?_
  · refine ⟨by simp, hrefl _, rfl, rfl, fun _ _ => rfl, fun j o t ho hd hl => ?_⟩
    simp [Array.getD_eq_getD_getElem?, Array.getElem?_replicate] at hl
    split at hl <;> simp at hl
  · intro j hj _
    omega
  · simp

/-! ### the same with a list of slots and of what is known of them -/

/-- What is known of a slot, whatever else may turn by R. -/
structure St (R : World → World → Prop) where
  p : Value → World → Prop
  st : ∀ v w w', p v w → R w w' → p v w'

/-- It is this value. -/
def St.is {R : World → World → Prop} (v0 : Value) : St R := ⟨fun v _ => v = v0, fun _ _ _ h _ => h⟩
/-- It is of this form, and so much is known of it. -/
def St.ex {R : World → World → Prop} {α : Type} (f : α → Value) (q : α → World → Prop) (hq : ∀ x w w', q x w → R w w' → q x w') : St R :=
  ⟨fun v w => ∃ x, v = f x ∧ q x w, fun _ _ _ ⟨x, h1, h2⟩ k => ⟨x, h1, hq x _ _ h2 k⟩⟩

def slot {α : Type} : List (Tmp × α) → Tmp → Option α
  | [], _ => none
  | (k, x) :: r, t => if k = t then some x else slot r t

theorem slot_mem {α : Type} : ∀ (l : List (Tmp × α)) (t : Tmp), t ∈ l.map (·.1) ↔ (slot l t).isSome = true
  | [], t => by simp [slot]
  | (k, x) :: r, t => by
    have ih := slot_mem r t
    rw [List.map_cons, List.mem_cons, ih, slot]
    by_cases h : k = t
    · simp [h]
    · simp [h, Ne.symm h]

def Holds {R : World → World → Prop} (VS : List (Tmp × St R)) (v : Value) (w : World) (t : Tmp) : Prop :=
  match slot VS t with | some s => s.p v w | none => True

def Seen {R : World → World → Prop} (VS : List (Tmp × St R)) (a0 a : Act) (w : World) : List Tmp → Prop
  | [] => True
  | t :: r => (match slot VS t with | some s => s.p (a.eval (.tmp t)) w | none => a.eval (.tmp t) = a0.eval (.tmp t)) ∧ Seen VS a0 a w r

/-- What an operation leaves. -/
def Leaves {R : World → World → Prop} (VS : List (Tmp × St R)) (a : Act) (w : World) (dst : Option Tmp) (a' : Act) (w' : World) : Prop :=
  ∃ v, a' = a.put dst v ∧ R w w' ∧ ∀ d, dst = some d → Holds VS v w' d

theorem leaves_of {R : World → World → Prop} {VS : List (Tmp × St R)} {a : Act} {w w' : World} {d : Tmp} {v : Value} (hR : R w w') (h : Holds VS v w' d) : Leaves VS a w (some d) (a.put (some d) v) w' :=
  ⟨v, rfl, hR, fun e he => by injection he with he; subst he; exact h⟩

def FlowOp2 (P : Program) (ops : Array Oper) {R : World → World → Prop} (VS : List (Tmp × St R)) (Q : Exit → Act → World → Prop) (a0 : Act) (w0 : World) (o : Oper) : Prop :=
  ∀ (a : Act) (w : World), R w0 w → Seen VS a0 a w (o.looksAt ops) →
    match o.guard with
    | none => o.wp P a w (Leaves VS a w o.dst) Q
    | some (j, want) =>
      (a.eval (.tmp (((ops[j]?).bind (·.dst)).getD 0)) = .bool want → o.wp P a w (Leaves VS a w o.dst) Q) ∧
      (a.eval (.tmp (((ops[j]?).bind (·.dst)).getD 0)) ≠ .bool want → ∀ d, o.dst = some d → Holds VS undef w d)

def FlowAll2 (P : Program) (ops : Array Oper) {R : World → World → Prop} (VS : List (Tmp × St R)) (Q : Exit → Act → World → Prop) (a0 : Act) (w0 : World) : List Oper → Prop
  | [] => True
  | o :: r => FlowOp2 P ops VS Q a0 w0 o ∧ FlowAll2 P ops VS Q a0 w0 r

def HoldsAll {R : World → World → Prop} (vs : Tmp → Value) (w : World) : List (Tmp × St R) → Prop
  | [] => True
  | (k, s) :: r => s.p (vs k) w ∧ HoldsAll vs w r

theorem holdsAll_of {R : World → World → Prop} {vs : Tmp → Value} {w : World} : ∀ (VS : List (Tmp × St R)), (VS.map (·.1)).Nodup → (∀ t, t ∈ VS.map (·.1) → Holds VS (vs t) w t) → HoldsAll vs w VS := by
  intro VS
  induction VS with
  | nil => intro _ _; trivial
  | cons x r ih =>
    obtain ⟨k, s⟩ := x
    intro hn h
    rw [List.map_cons, List.nodup_cons] at hn
    refine ⟨?_, ih hn.2 fun t ht => ?_⟩
    · have := h k (by simp)
      simpa [Holds, slot] using this
    · have := h t (by simp only [List.map_cons, List.mem_cons]; exact .inr ht)
      have hkt : k ≠ t := fun e => by subst e; exact hn.1 ht
      simpa [Holds, slot, hkt] using this

theorem wp_flow2 {id : Nat} {ops : List Oper} {a0 : Act} {w : World} {Q : Exit → Act → World → Prop} (hm : P.follows .mixedOrders = true) {R : World → World → Prop}
    (VS : List (Tmp × St R)) (hok : flowOk ops.toArray (VS.map (·.1)) a0.tmps.size = true) (hrefl : ∀ a, R a a) (htrans : ∀ a b c, R a b → R b c → R a c)
    (hops : FlowAll2 P ops.toArray VS Q a0 w.drew ops)
    (hfin : ∀ w' (vs : Tmp → Value), R w.drew w' → HoldsAll vs w' VS → Q .normal ((VS.map (·.1)).foldl (fun a d => a.put (some d) (vs d)) a0) w') :
    (Code.region id ops.toArray true).wp P Q a0 w := by
  have hnd : (VS.map (·.1)).Nodup := by
    simp only [flowOk, Bool.and_eq_true, decide_eq_true_eq] at hok
    exact hok.1.2
  refine wp_flow hm (VS.map (·.1)) (fun t v w => Holds VS v w t) R hok hrefl htrans ?_ ?_ fun w' vs hR hV => hfin w' vs hR (holdsAll_of VS hnd hV)
  · intro t v w w' h hR
    unfold Holds at *
    cases hs : slot VS t with
    | none => trivial
    | some s => rw [hs] at h; exact s.st _ _ _ h hR
  · have key : ∀ l : List Oper, FlowAll2 P ops.toArray VS Q a0 w.drew l → FlowAll P ops.toArray (fun t v w => Holds VS v w t) R Q (VS.map (·.1)) a0 w.drew l := by
      intro l
      induction l with
      | nil => intro _; trivial
      | cons o r ih =>
        rintro ⟨h1, h2⟩
        refine ⟨fun a wa hR hk => ?_, ih h2⟩
        have hseen : ∀ l, KnownAll (fun t v w => Holds VS v w t) (VS.map (·.1)) a0 a wa l → Seen VS a0 a wa l := by
          intro l
          induction l with
          | nil => intro _; trivial
          | cons t l ihl =>
            rintro ⟨k1, k2⟩
            refine ⟨?_, ihl k2⟩
            unfold Known at k1
            have hm := slot_mem VS t
            cases hs : slot VS t with
            | none =>
              rw [hs] at hm
              rw [if_neg (fun h => by have := hm.1 h; simp at this)] at k1
              exact k1
            | some s =>
              rw [hs] at hm
              rw [if_pos (hm.2 rfl)] at k1
              unfold Holds at k1
              rw [hs] at k1
              exact k1
        exact h1 a wa hR (hseen _ hk)
    exact key ops hops

/-- All that may turn is new. -/
theorem mod_trans (a b c : World) (h : Mod Nil a b) (k : Mod Nil b c) : Mod Nil a c := h.trans k

end
end Go.Proofs.YtefloadjolpgbaaDoor

namespace Go.Proofs.YtefloadjolpgbaaDoor
open Go.RowKit

section
variable {P : Program}

/-- The writing operations: each is there, and told to come behind the one ahead of it. -/
def chainOk (ops : Array Oper) (wr : List Nat) : Bool :=
  (wr.all fun i => decide (i < ops.size)) && decide wr.Nodup &&
  (List.range wr.length).all fun j => match j with
    | 0 => true
    | k + 1 => match wr[k + 1]?, wr[k]? with
      | some i, some h => match ops[i]? with
        | some o => o.after.toList.any fun e => Region.binds .any e && e.on == h
        | none => false
      | _, _ => false

/-- How far the writing operations have come. -/
def Phase (wr : List Nat) (Ph : Nat → World → Prop) (listed : Array Bool) (w : World) : Prop :=
  ∃ k, k ≤ wr.length ∧ (∀ (j i : Nat), wr[j]? = some i → (listed.getD i false = true ↔ j < k)) ∧ Ph k w

theorem Phase.all {wr : List Nat} {Ph : Nat → World → Prop} {listed : Array Bool} {w : World} (h : Phase wr Ph listed w) (ha : ∀ i, i ∈ wr → listed.getD i false = true) : Ph wr.length w := by
  obtain ⟨k, hk, hl, hp⟩ := h
  rcases Nat.lt_or_ge k wr.length with hlt | hge
  · exfalso
    have hi : wr[k]? = some wr[k] := List.getElem?_eq_getElem hlt
    have := (hl k _ hi).1 (ha _ (List.mem_of_getElem? hi))
    omega
  · obtain rfl : k = wr.length := by omega
    exact hp

theorem Phase.step {ops : Array Oper} {wr : List Nat} {Ph : Nat → World → Prop} {listed : Array Bool} {w : World} {i : Nat} {o : Oper} (h : Phase wr Ph listed w) (hwr : chainOk ops wr = true)
    (hlf : listed.getD i false = false) (hil : i < listed.size) (ho : ops[i]? = some o) (he : ∀ e ∈ o.after, Region.binds .any e = true → listed.getD e.on false = true) :
    ∃ k, (∀ j, wr[j]? = some i → k = j) ∧ Ph k w ∧ ∀ w', Ph (if i ∈ wr then k + 1 else k) w' → Phase wr Ph (listed.setIfInBounds i true) w' := by
  obtain ⟨k, hk, hl, hp⟩ := h
  unfold chainOk at hwr
  simp only [Bool.and_eq_true, List.all_eq_true, decide_eq_true_eq, List.mem_range] at hwr
  obtain ⟨⟨hin, hnd⟩, hch⟩ := hwr
  have hkey : ∀ j, wr[j]? = some i → k = j := by
    intro j hj
    have h1 : ¬ j < k := fun hjk => by have := (hl j i hj).2 hjk; rw [hlf] at this; cases this
    rcases j with _ | m
    · omega
    · have hjl := (List.getElem?_eq_some_iff.1 hj).1
      have hm : wr[m]? = some wr[m] := List.getElem?_eq_getElem (by omega)
      have hc := hch (m + 1) hjl
      simp only [hj, hm, ho] at hc
      simp only [List.any_eq_true, Bool.and_eq_true, beq_iff_eq] at hc
      obtain ⟨e, hem, hb, hon⟩ := hc
      have hlm := he e (Array.mem_toList_iff.1 hem) hb
      rw [hon] at hlm
      have := (hl m _ hm).1 hlm
      omega
  refine ⟨k, hkey, hp, fun w' hw' => ?_⟩
  by_cases hi : i ∈ wr
  · rw [if_pos hi] at hw'
    obtain ⟨j, hj⟩ := List.getElem?_of_mem hi
    obtain rfl := hkey j hj
    have hjl := (List.getElem?_eq_some_iff.1 hj).1
    refine ⟨k + 1, by omega, fun m x hx => ?_, hw'⟩
    by_cases hxi : i = x
    · subst hxi
      rw [getD_set_same false hil]
      have : m = k := by
        have h1 := (List.getElem?_eq_some_iff.1 hx)
        have h2 := (List.getElem?_eq_some_iff.1 hj)
        obtain ⟨p1, q1⟩ := h1
        obtain ⟨p2, q2⟩ := h2
        exact (List.getElem_inj hnd).1 (q1.trans q2.symm)
      simp; omega
    · rw [getD_set_other false hxi, hl m x hx]
      have : m ≠ k := fun e => by subst e; rw [hx] at hj; injection hj with hj; exact hxi hj.symm
      omega
  · rw [if_neg hi] at hw'
    refine ⟨k, hk, fun m x hx => ?_, hw'⟩
    have hxi : i ≠ x := fun e => by subst e; exact hi (List.mem_of_getElem? hx)
    rw [getD_set_other false hxi]
    exact hl m x hx

/-- What is asked of one operation, in each phase in which it may come up. -/
def FlowOp3 (P : Program) (ops : Array Oper) (V : Tmp → Value → World → Prop) (R : World → World → Prop) (Q : Exit → Act → World → Prop) (D : List Tmp) (a0 : Act) (w0 : World) (wr : List Nat) (Ph : Nat → World → Prop) (i : Nat) (o : Oper) : Prop :=
  ∀ (a : Act) (w : World) (k : Nat), R w0 w → Ph k w → (∀ j, wr[j]? = some i → k = j) → KnownAll V D a0 a w (o.looksAt ops) →
    match o.guard with
    | none => o.wp P a w (fun a' w' => ∃ v, a' = a.put o.dst v ∧ R w w' ∧ Ph (if i ∈ wr then k + 1 else k) w' ∧ ∀ d, o.dst = some d → V d v w') Q
    | some (j, want) =>
      (a.eval (.tmp (((ops[j]?).bind (·.dst)).getD 0)) = .bool want → o.wp P a w (fun a' w' => ∃ v, a' = a.put o.dst v ∧ R w w' ∧ Ph (if i ∈ wr then k + 1 else k) w' ∧ ∀ d, o.dst = some d → V d v w') Q) ∧
      (a.eval (.tmp (((ops[j]?).bind (·.dst)).getD 0)) ≠ .bool want → i ∉ wr ∧ ∀ d, o.dst = some d → V d undef w)

theorem flow3_any {ops : Array Oper} {V : Tmp → Value → World → Prop} {R : World → World → Prop} {Q : Exit → Act → World → Prop} {D : List Tmp} {a0 : Act} {w0 : World} {wr : List Nat} {Ph : Nat → World → Prop}
    (hok : flowOk ops D a0.tmps.size = true) (hwr : chainOk ops wr = true) (hrefl : ∀ a, R a a) (htrans : ∀ a b c, R a b → R b c → R a c) (hst : ∀ t v w w', V t v w → R w w' → V t v w')
    (hops : ∀ (i : Nat) (o : Oper), ops[i]? = some o → FlowOp3 P ops V R Q D a0 w0 wr Ph i o)
    (hfin : ∀ w' (vs : Tmp → Value), R w0 w' → Ph wr.length w' → (∀ t, t ∈ D → V t (vs t) w') → Q .normal (D.foldl (fun a d => a.put (some d) (vs d)) a0) w') :
    ∀ (fuel : Nat) (listed : Array Bool) (a : Act) (w : World), FlowInv ops V R a0 w0 listed a w → Phase wr Ph listed w → (∀ j, j < ops.size → listed.getD j false = false → 0 < fuel) → listed.toList.count false ≤ fuel → wpAny P .any ops Q fuel listed a w := by
  simp only [flowOk, Bool.and_eq_true, beq_iff_eq, decide_eq_true_eq, List.all_eq_true] at hok
  obtain ⟨⟨⟨hdst, hlt⟩, hnd⟩, hform⟩ := hok
  have form : ∀ i o, ops[i]? = some o → (∀ e ∈ o.after, Region.binds .any e = true → e.on < i) ∧ (∀ t ∈ o.looksAt ops, t ∈ D → ∃ e ∈ o.after, Region.binds .any e = true ∧ (ops[e.on]?).bind (·.dst) = some t) ∧ (∀ j b, o.guard = some (j, b) → ((ops[j]?).bind (·.dst)).isSome = true) := by
    intro i o ho
    have hmem : (o, i) ∈ ops.toList.zipIdx := by
      rw [List.mk_mem_zipIdx_iff_getElem?, Array.getElem?_toList]
      exact ho
    have h := hform (o, i) hmem
    simp only [Bool.and_eq_true, Bool.or_eq_true, Bool.not_eq_true', decide_eq_true_eq, List.any_eq_true, beq_iff_eq] at h
    refine ⟨fun e he hb => ?_, fun t ht htD => ?_, fun j b hg => ?_⟩
    · rcases h.1.1 e (Array.mem_toList_iff.2 he) with h' | h'
      · rw [hb] at h'; cases h'
      · exact h'
    · rcases h.1.2 t ht with h' | h'
      · have : D.contains t = true := List.contains_iff_mem.2 htD
        rw [this] at h'; cases h'
      · obtain ⟨e, he, hb, hd⟩ := h'
        exact ⟨e, Array.mem_toList_iff.1 he, hb, hd⟩
    · have h2 := h.2
      rw [hg] at h2
      exact h2
  have memD : ∀ t, t ∈ D ↔ ∃ (j : Nat) (o : Oper), ops[j]? = some o ∧ o.dst = some t := by
    intro t
    rw [← hdst, List.mem_filterMap]
    constructor
    · rintro ⟨o, ho, hd⟩
      obtain ⟨j, hj⟩ := List.getElem?_of_mem ho
      exact ⟨j, o, by rw [← Array.getElem?_toList]; exact hj, hd⟩
    · rintro ⟨j, o, ho, hd⟩
      exact ⟨o, Array.mem_toList_iff.2 (Array.mem_of_getElem? ho), hd⟩
  have uniq : ∀ (i j : Nat) (o o' : Oper) (t : Tmp), ops[i]? = some o → ops[j]? = some o' → o.dst = some t → o'.dst = some t → i = j := by
    have key : ∀ (l : List Oper), (l.filterMap (·.dst)).Nodup → ∀ (i j : Nat) (o o' : Oper) (t : Tmp), l[i]? = some o → l[j]? = some o' → o.dst = some t → o'.dst = some t → i = j := by
      intro l
      induction l with
      | nil => intro _ i j o o' t h; simp at h
      | cons x l ih =>
        intro hn i j o o' t hi hj hd hd'
        have hn' : (l.filterMap (·.dst)).Nodup := by
          cases hx : x.dst with
          | none => rw [List.filterMap_cons_none hx] at hn; exact hn
          | some d => rw [List.filterMap_cons_some hx] at hn; exact (List.nodup_cons.1 hn).2
        have hno : ∀ (k : Nat) (y : Oper), x.dst = some t → l[k]? = some y → y.dst = some t → False := by
          intro k y hx hk hy
          rw [List.filterMap_cons_some hx] at hn
          exact (List.nodup_cons.1 hn).1 (List.mem_filterMap.2 ⟨y, List.mem_of_getElem? hk, hy⟩)
        match i, j, hi, hj with
        | 0, 0, _, _ => rfl
        | 0, j + 1, hi, hj =>
          simp only [List.getElem?_cons_zero, Option.some.injEq] at hi
          simp only [List.getElem?_cons_succ] at hj
          subst hi
          exact (hno j o' hd hj hd').elim
        | i + 1, 0, hi, hj =>
          simp only [List.getElem?_cons_zero, Option.some.injEq] at hj
          simp only [List.getElem?_cons_succ] at hi
          subst hj
          exact (hno i o hd' hi hd).elim
        | i + 1, j + 1, hi, hj =>
          simp only [List.getElem?_cons_succ] at hi hj
          rw [ih hn' i j o o' t hi hj hd hd']
    intro i j o o' t hi hj
    exact key ops.toList (by rw [hdst]; exact hnd) i j o o' t (by rw [Array.getElem?_toList]; exact hi) (by rw [Array.getElem?_toList]; exact hj)
  have hin : ∀ j, j ∈ wr → j < ops.size := by
    unfold chainOk at hwr
    simp only [Bool.and_eq_true, List.all_eq_true, decide_eq_true_eq] at hwr
    exact hwr.1.1
  -- where nothing may come up, all has
  have done_ : ∀ listed : Array Bool, listed.size = ops.size → Region.ready .any ops listed = [] → ∀ j, j < ops.size → listed.getD j false = true := by
    intro listed hls hr j
    induction j using Nat.strongRecOn with
    | _ j ih =>
      intro hj
      by_cases hl : listed.getD j false = true
      · exact hl
      · exfalso
        have hmem : j ∈ Region.ready .any ops listed := by
          refine mem_ready.2 ⟨?_, ops[j], Array.getElem?_eq_getElem hj, fun e he hb => ?_⟩
          · have : j < listed.size := by omega
            simp [this] at hl ⊢
            exact hl
          · have hon := (form j _ (Array.getElem?_eq_getElem hj)).1 e he hb
            exact ih e.on hon (by omega)
        rw [hr] at hmem
        cases hmem
  -- the end
  have fin_ : ∀ (listed : Array Bool) (a : Act) (w : World), FlowInv ops V R a0 w0 listed a w → Phase wr Ph listed w → (∀ j, j < ops.size → listed.getD j false = true) → Q .normal a w := by
    intro listed a w inv hph hall
    have hV : ∀ t, t ∈ D → V t (a.eval (.tmp t)) w := by
      intro t ht
      obtain ⟨j, o, ho, hd⟩ := (memD t).1 ht
      exact inv.inn j o t ho hd (hall j (Array.getElem?_eq_some_iff.1 ho).1)
    have h := hfin w (fun t => a.eval (.tmp t)) inv.world (hph.all (fun j hj => hall _ (hin j hj))) hV
    have e : D.foldl (fun b d => b.put (some d) (a.eval (.tmp d))) a0 = a := by
      have hp := fun t => putAll_eval (fun d => a.eval (.tmp d)) D a0 t hnd (fun d hd => by simpa using hlt d hd)
      refine act_ext (by rw [(hp 0).2.1, inv.size]) (by rw [(hp 0).2.2, inv.defers]) fun t => ?_
      rw [(hp t).1]
      split
      · rfl
      · rename_i ht
        refine (inv.out t fun j o ho hd => ?_).symm
        exact (ht ((memD t).2 ⟨j, o, ho, hd⟩)).elim
    rw [e] at h
    exact h
  intro fuel
  induction fuel with
  | zero =>
    intro listed a w inv hph h0 hc
    have hall : ∀ j, j < ops.size → listed.getD j false = true := by
      intro j hj
      by_cases hl : listed.getD j false = true
      · exact hl
      · exact absurd (h0 j hj (by simpa using hl)) (by omega)
    refine ⟨?_, fin_ listed a w inv hph hall⟩
    rcases hr : Region.ready .any ops listed with _ | ⟨i, r⟩
    · rfl
    · exfalso
      have hi : i ∈ Region.ready .any ops listed := by rw [hr]; simp
      obtain ⟨hl, o, ho, _⟩ := mem_ready.1 hi
      have hil : i < ops.size := (Array.getElem?_eq_some_iff.1 ho).1
      have := hall i hil
      have hil' : i < listed.size := by rw [inv.lsize]; exact hil
      simp [hil'] at hl this
      rw [hl] at this
      cases this
  | succ fuel ih =>
    intro listed a w inv hph _ hc
    refine ⟨fun hr => fin_ listed a w inv hph (done_ listed inv.lsize hr), fun i hi => ?_⟩
    obtain ⟨hl, o, ho, hedges⟩ := mem_ready.1 hi
    have hio : i < ops.size := (Array.getElem?_eq_some_iff.1 ho).1
    have hil : i < listed.size := by rw [inv.lsize]; exact hio
    have hlf : listed.getD i false = false := by simp [hil] at hl ⊢; exact hl
    obtain ⟨hback, hlook, hguard⟩ := form i o ho
    have hk : KnownAll V D a0 a w (o.looksAt ops) := knownAll_of _ fun t ht => by
      unfold Known
      split
      · rename_i htD
        obtain ⟨e, he, hb, hd⟩ := hlook t ht htD
        obtain ⟨oj, hoj, hdj⟩ := Option.bind_eq_some_iff.1 hd
        exact inv.inn e.on oj t hoj hdj (hedges e he hb)
      · rename_i htD
        exact inv.out t fun j oj hoj hdj => (htD ((memD t).2 ⟨j, oj, hoj, hdj⟩)).elim
    obtain ⟨kk, hkk, hpw, hnext⟩ := hph.step hwr hlf hil ho hedges
    have hop := hops i o ho a w kk inv.world hpw hkk hk
    have hcount : (listed.setIfInBounds i true).toList.count false ≤ fuel := by
      have e : listed.toList = listed.toList.take i ++ false :: listed.toList.drop (i + 1) := by
        have hi2 : i < listed.toList.length := by simpa using hil
        have hg : listed.toList[i] = false := by
          simp [hil] at hlf
          simpa using hlf
        rw [← hg]
        conv => lhs; rw [← List.take_append_drop i listed.toList, List.drop_eq_getElem_cons hi2]
      have e' : (listed.setIfInBounds i true).toList = listed.toList.take i ++ true :: listed.toList.drop (i + 1) := by
        rw [Array.toList_setIfInBounds, List.set_eq_take_append_cons_drop, if_pos (by simpa using hil)]
      rw [e] at hc
      rw [e']
      simp only [List.count_append, List.count_cons] at hc ⊢
      simp at hc ⊢
      omega
    have step : ∀ v w', R w w' → Ph (if i ∈ wr then kk + 1 else kk) w' → (∀ d, o.dst = some d → V d v w') → wpAny P .any ops Q fuel (listed.setIfInBounds i true) (a.put o.dst v) w' := by
      intro v w' hR hPh hv
      have hinv : FlowInv ops V R a0 w0 (listed.setIfInBounds i true) (a.put o.dst v) w' := by
        refine ⟨by simp [inv.lsize], htrans _ _ _ inv.world hR, ?_, by rw [Act.size_put, inv.size], ?_, ?_⟩
        · cases h : o.dst <;> simp [Act.put, inv.defers]
        · intro t ht
          cases hd : o.dst with
          | none =>
            refine inv.out t fun j oj hoj hdj => ?_
            have hji : i ≠ j := fun e => by
              subst e
              rw [ho] at hoj
              injection hoj with hoj
              subst hoj
              rw [hd] at hdj
              cases hdj
            have := ht j oj hoj hdj
            rwa [getD_set_other false hji] at this
          | some d =>
            have htd : d ≠ t := fun e => by
              subst e
              have := ht i o ho hd
              rw [getD_set_same false hil] at this
              cases this
            rw [Act.eval_put_ne _ htd]
            refine inv.out t fun j oj hoj hdj => ?_
            have hji : i ≠ j := fun e => by
              subst e
              rw [ho] at hoj
              injection hoj with hoj
              subst hoj
              rw [hd] at hdj
              injection hdj with hdj
              exact htd hdj
            have := ht j oj hoj hdj
            rwa [getD_set_other false hji] at this
        · intro j oj t hoj hdj hlj
          by_cases hji : i = j
          · subst hji
            rw [ho] at hoj
            injection hoj with hoj
            subst hoj
            rw [hdj, Act.eval_put_same _ (by rw [inv.size]; have := hlt t ((memD t).2 ⟨i, o, ho, hdj⟩); simpa using this)]
            exact hv t hdj
          · rw [getD_set_other false hji] at hlj
            have hvj := hst t _ _ _ (inv.inn j oj t hoj hdj hlj) hR
            cases hd : o.dst with
            | none => exact hvj
            | some d =>
              have : d ≠ t := fun e => by
                subst e
                exact hji (uniq i j o oj d ho hoj hd hdj)
              rw [Act.eval_put_ne _ this]
              exact hvj
      refine ih (listed.setIfInBounds i true) (a.put o.dst v) w' hinv (hnext w' hPh) (fun j hj hlj => ?_) hcount
      rcases Nat.eq_zero_or_pos fuel with h0 | h0
      · exfalso
        have hz : (listed.setIfInBounds i true).toList.count false = 0 := by omega
        rw [List.count_eq_zero] at hz
        have hjl : j < (listed.setIfInBounds i true).size := by rw [Array.size_setIfInBounds, inv.lsize]; exact hj
        refine hz ?_
        have hget : (listed.setIfInBounds i true)[j] = false := by
          rw [Array.getD_eq_getD_getElem?, Array.getElem?_eq_getElem hjl] at hlj
          simpa using hlj
        rw [← hget]
        exact Array.mem_toList_iff.2 (Array.getElem_mem hjl)
      · exact h0
    unfold wpOp
    simp only [ho]
    cases hg : o.guard with
    | none =>
      rw [hg] at hop
      simp only [Region.wanted, hg, if_true]
      refine .inl (Oper.wp_mono ?_ hop)
      rintro a' w' ⟨v, rfl, hR, hPh, hv⟩
      exact step v w' hR hPh hv
    | some jb =>
      obtain ⟨j, b⟩ := jb
      rw [hg] at hop
      have hsome := hguard j b hg
      obtain ⟨gd, hgd⟩ := Option.isSome_iff_exists.1 hsome
      dsimp only at hop
      rw [hgd] at hop
      simp only [Option.getD_some] at hop
      have hy : yielded ops a.tmps j = (match a.tmps[gd]? with | some (.bool c) => some c | _ => none) := by
        unfold yielded
        rw [hgd]
        rfl
      by_cases hgv : a.eval (.tmp gd) = .bool b
      · have hop := hop.1 hgv
        have hgs : gd < a.tmps.size := by
          rcases Nat.lt_or_ge gd a.tmps.size with h | h
          · exact h
          · simp [Act.eval, Array.getElem?_eq_none h, undef] at hgv
        have : a.tmps[gd]? = some (.bool b) := by
          simp [Act.eval, hgs] at hgv
          rw [Array.getElem?_eq_getElem hgs, hgv]
        have hw : Region.wanted o (yielded ops a.tmps) = true := by
          unfold Region.wanted
          rw [hg]
          show (yielded ops a.tmps j == some b) = true
          rw [hy, this]
          simp
        rw [if_pos hw]
        refine .inl (Oper.wp_mono ?_ hop)
        rintro a' w' ⟨v, rfl, hR, hPh, hv⟩
        exact step v w' hR hPh hv
      · have hop := hop.2 hgv
        have : (yielded ops a.tmps j == some b) = false := by
          rw [hy]
          rcases hx : a.tmps[gd]? with _ | x
          · rfl
          · cases x <;> try rfl
            rename_i c
            simp only [beq_eq_false_iff_ne, ne_eq, Option.some.injEq]
            intro hcb
            subst hcb
            refine hgv ?_
            simp [Act.eval, hx]
        have hw : ¬ Region.wanted o (yielded ops a.tmps) = true := by
          unfold Region.wanted
          rw [hg]
          show ¬ (yielded ops a.tmps j == some b) = true
          rw [this]
          simp
        rw [if_neg hw]
        exact step undef w (hrefl w) (by rw [if_neg hop.1]; exact hpw) hop.2


/-- What an operation leaves. -/
def Leaves3 {R : World → World → Prop} (VS : List (Tmp × St R)) (Ph : World → Prop) (a : Act) (w : World) (dst : Option Tmp) (a' : Act) (w' : World) : Prop :=
  ∃ v, a' = a.put dst v ∧ R w w' ∧ Ph w' ∧ ∀ d, dst = some d → Holds VS v w' d

theorem leaves3_of {R : World → World → Prop} {VS : List (Tmp × St R)} {Ph : World → Prop} {a : Act} {w w' : World} {d : Tmp} {v : Value} (hR : R w w') (hP : Ph w') (h : Holds VS v w' d) : Leaves3 VS Ph a w (some d) (a.put (some d) v) w' :=
  ⟨v, rfl, hR, hP, fun e he => by injection he with he; subst he; exact h⟩

/-- What is asked of operation number i: of a writing one (m: how many are ahead of it), of another. -/
def FlowOp4 (P : Program) (ops : Array Oper) {R : World → World → Prop} (VS : List (Tmp × St R)) (Q : Exit → Act → World → Prop) (a0 : Act) (w0 : World) (Ph : Nat → World → Prop) (at_ : Option Nat) (o : Oper) : Prop :=
  ∀ (a : Act) (w : World) (k : Nat), R w0 w → Ph k w → (match at_ with | some m => k = m | none => True) → Seen VS a0 a w (o.looksAt ops) →
    match o.guard with
    | none => o.wp P a w (Leaves3 VS (Ph (match at_ with | some m => m + 1 | none => k)) a w o.dst) Q
    | some (j, want) =>
      (a.eval (.tmp (((ops[j]?).bind (·.dst)).getD 0)) = .bool want → o.wp P a w (Leaves3 VS (Ph (match at_ with | some m => m + 1 | none => k)) a w o.dst) Q) ∧
      (a.eval (.tmp (((ops[j]?).bind (·.dst)).getD 0)) ≠ .bool want → at_ = none ∧ ∀ d, o.dst = some d → Holds VS undef w d)

def FlowAll4 (P : Program) (ops : Array Oper) {R : World → World → Prop} (VS : List (Tmp × St R)) (Q : Exit → Act → World → Prop) (a0 : Act) (w0 : World) (Ph : Nat → World → Prop) : List (Option Nat) → List Oper → Prop
  | m :: ms, o :: r => FlowOp4 P ops VS Q a0 w0 Ph m o ∧ FlowAll4 P ops VS Q a0 w0 Ph ms r
  | [], [] => True
  | _, _ => False

theorem flowAll4_at {ops : Array Oper} {R : World → World → Prop} {VS : List (Tmp × St R)} {Q : Exit → Act → World → Prop} {a0 : Act} {w0 : World} {Ph : Nat → World → Prop} :
    ∀ (ms : List (Option Nat)) (l : List Oper), FlowAll4 P ops VS Q a0 w0 Ph ms l → ∀ (i : Nat) (o : Oper), l[i]? = some o → ∃ m, ms[i]? = some m ∧ FlowOp4 P ops VS Q a0 w0 Ph m o
  | [], [], _, i, o, h => by simp at h
  | m :: ms, x :: r, hf, 0, o, h => by
    simp at h
    subst h
    exact ⟨m, rfl, hf.1⟩
  | m :: ms, x :: r, hf, i + 1, o, h => by
    simp at h
    obtain ⟨m', h1, h2⟩ := flowAll4_at ms r hf.2 i o h
    exact ⟨m', by simpa using h1, h2⟩
  | [], _ :: _, hf, _, _, _ => hf.elim
  | _ :: _, [], hf, _, _, _ => hf.elim

/-- The marks of a region's operations: the writing ones numbered on. -/
def marksOk (wr : List Nat) (ms : List (Option Nat)) : Bool :=
  ms.zipIdx.all fun (m, i) => match m with
    | some j => wr[j]? == some i
    | none => !wr.contains i

/-- A region that draws its order and holds writing operations that come one behind the other (wr: their numbers; ms: the mark of each operation). -/
theorem wp_flow3 {id : Nat} {ops : List Oper} {a0 : Act} {w : World} {Q : Exit → Act → World → Prop} (hm : P.follows .mixedOrders = true) {R : World → World → Prop}
    (wr : List Nat) (ms : List (Option Nat)) (VS : List (Tmp × St R)) (Ph : Nat → World → Prop) (hok : flowOk ops.toArray (VS.map (·.1)) a0.tmps.size = true) (hch : chainOk ops.toArray wr = true) (hms : marksOk wr ms = true)
    (hrefl : ∀ a, R a a) (htrans : ∀ a b c, R a b → R b c → R a c) (h0 : Ph 0 w.drew)
    (hops : FlowAll4 P ops.toArray VS Q a0 w.drew Ph ms ops)
    (hfin : ∀ w' (vs : Tmp → Value), R w.drew w' → Ph wr.length w' → HoldsAll vs w' VS → Q .normal ((VS.map (·.1)).foldl (fun a d => a.put (some d) (vs d)) a0) w') :
    (Code.region id ops.toArray true).wp P Q a0 w := by
  have hnd : (VS.map (·.1)).Nodup := by
    simp only [flowOk, Bool.and_eq_true, decide_eq_true_eq] at hok
    exact hok.1.2
  refine wp_region_any hm ?_
  refine flow3_any (R := R) (V := fun t v w => Holds VS v w t) (D := VS.map (·.1)) (a0 := a0) (w0 := w.drew) (wr := wr) (Ph := Ph) hok hch hrefl htrans ?_ ?_ (fun w' vs hR hP hV => hfin w' vs hR hP (holdsAll_of VS hnd hV)) _ _ _ _ ?_ ?_ ?_ ?_
  · intro t v w w' h hR
    unfold Holds at *
    cases hs : slot VS t with
    | none => trivial
    | some s => rw [hs] at h; exact s.st _ _ _ h hR
  · intro i o ho a wa k hR hP hkj hk
    have ho' : ops[i]? = some o := by simpa using ho
    obtain ⟨m, hmi, hop⟩ := flowAll4_at ms ops hops i o ho'
    have hseen : ∀ l, KnownAll (fun t v w => Holds VS v w t) (VS.map (·.1)) a0 a wa l → Seen VS a0 a wa l := by
      intro l
      induction l with
      | nil => intro _; trivial
      | cons t l ihl =>
        rintro ⟨k1, k2⟩
        refine ⟨?_, ihl k2⟩
        unfold Known at k1
        have hm := slot_mem VS t
        cases hs : slot VS t with
        | none =>
          rw [hs] at hm
          rw [if_neg (fun h => by have := hm.1 h; simp at this)] at k1
          exact k1
        | some s =>
          rw [hs] at hm
          rw [if_pos (hm.2 rfl)] at k1
          unfold Holds at k1
          rw [hs] at k1
          exact k1
    have hmem : (m, i) ∈ ms.zipIdx := by
      rw [List.mk_mem_zipIdx_iff_getElem?]
      exact hmi
    have hmk := List.all_eq_true.1 hms (m, i) hmem
    have hh := hop a wa k hR hP
    cases m with
    | some j =>
      simp only [beq_iff_eq] at hmk
      obtain rfl := hkj j hmk
      have hiw : i ∈ wr := List.mem_of_getElem? hmk
      have hh := hh rfl (hseen _ hk)
      simp only [hiw, if_true]
      cases hg : o.guard with
      | none => rw [hg] at hh; exact hh
      | some jb =>
        obtain ⟨jj, b⟩ := jb
        rw [hg] at hh
        exact ⟨hh.1, fun hne => by have := (hh.2 hne).1; cases this⟩
    | none =>
      have hiw : i ∉ wr := by simpa using hmk
      have hh := hh trivial (hseen _ hk)
      simp only [hiw, if_false]
      cases hg : o.guard with
      | none => rw [hg] at hh; exact hh
      | some jb =>
        obtain ⟨jj, b⟩ := jb
        rw [hg] at hh
        exact ⟨hh.1, fun hne => ⟨fun h => h.elim, (hh.2 hne).2⟩⟩
  · refine ⟨by simp, hrefl _, rfl, rfl, fun _ _ => rfl, fun j o t ho hd hl => ?_⟩
    simp [Array.getD_eq_getD_getElem?, Array.getElem?_replicate] at hl
    split at hl <;> simp at hl
  · refine ⟨0, Nat.zero_le _, fun j i hj => ?_, h0⟩
    simp [Array.getD_eq_getD_getElem?, Array.getElem?_replicate]
    split <;> simp
  · intro j hj _
    omega
  · simp
end
end Go.Proofs.YtefloadjolpgbaaDoor

namespace Go.Proofs.YtefloadjolpgbaaDoor
open Go.RowKit

section
variable {P : Program}

theorem holdsAll_ext {R : World → World → Prop} {w : World} {vs us : Tmp → Value} : ∀ (VS : List (Tmp × St R)), (∀ t, t ∈ VS.map (·.1) → us t = vs t) → HoldsAll vs w VS → HoldsAll us w VS
  | [], _, _ => trivial
  | (t, s) :: r, h, hh => by
    obtain ⟨h1, h2⟩ := hh
    refine ⟨?_, holdsAll_ext r (fun u hu => h u (by simp [hu])) h2⟩
    rw [h t (by simp)]
    exact h1

/-- What stands behind a region of the slots D: all others as they were. -/
structure Behind (D : List Tmp) (a0 a : Act) : Prop where
  size : a.tmps.size = a0.tmps.size
  defers : a.defers = a0.defers
  other : ∀ t, t ∉ D → a.eval (.tmp t) = a0.eval (.tmp t)

theorem wp_flow2a {id n : Nat} {ops : List Oper} {a0 : Act} {w : World} {Q : Exit → Act → World → Prop} (hm : P.follows .mixedOrders = true) {R : World → World → Prop}
    (VS : List (Tmp × St R)) (hsz : a0.tmps.size = n) (hok : flowOk ops.toArray (VS.map (·.1)) n = true) (hrefl : ∀ a, R a a) (htrans : ∀ a b c, R a b → R b c → R a c)
    (hops : FlowAll2 P ops.toArray VS Q a0 w.drew ops)
    (hfin : ∀ w' a', R w.drew w' → Behind (VS.map (·.1)) a0 a' → HoldsAll (fun t => a'.eval (.tmp t)) w' VS → Q .normal a' w') :
    (Code.region id ops.toArray true).wp P Q a0 w := by
  subst hsz
  have h := hok
  simp only [flowOk, Bool.and_eq_true, decide_eq_true_eq, List.all_eq_true] at h
  refine wp_flow2 hm VS hok hrefl htrans hops fun w' vs hR hV => ?_
  have key := fun t => putAll_eval vs (VS.map (·.1)) a0 t h.1.2 (fun d hd => h.1.1.2 d hd)
  refine hfin w' _ hR ⟨(key 0).2.1, (key 0).2.2, fun t ht => by rw [(key t).1, if_neg ht]⟩ (holdsAll_ext VS (fun t ht => by rw [(key t).1, if_pos ht]) hV)

theorem wp_flow3a {id n : Nat} {ops : List Oper} {a0 : Act} {w : World} {Q : Exit → Act → World → Prop} (hm : P.follows .mixedOrders = true) {R : World → World → Prop}
    (wr : List Nat) (ms : List (Option Nat)) (VS : List (Tmp × St R)) (Ph : Nat → World → Prop) (hsz : a0.tmps.size = n) (hok : flowOk ops.toArray (VS.map (·.1)) n = true) (hch : chainOk ops.toArray wr = true) (hms : marksOk wr ms = true)
    (hrefl : ∀ a, R a a) (htrans : ∀ a b c, R a b → R b c → R a c) (h0 : Ph 0 w.drew)
    (hops : FlowAll4 P ops.toArray VS Q a0 w.drew Ph ms ops)
    (hfin : ∀ w' a', R w.drew w' → Ph wr.length w' → Behind (VS.map (·.1)) a0 a' → HoldsAll (fun t => a'.eval (.tmp t)) w' VS → Q .normal a' w') :
    (Code.region id ops.toArray true).wp P Q a0 w := by
  subst hsz
  have h := hok
  simp only [flowOk, Bool.and_eq_true, decide_eq_true_eq, List.all_eq_true] at h
  refine wp_flow3 hm wr ms VS Ph hok hch hms hrefl htrans h0 hops fun w' vs hR hP hV => ?_
  have key := fun t => putAll_eval vs (VS.map (·.1)) a0 t h.1.2 (fun d hd => h.1.1.2 d hd)
  refine hfin w' _ hR hP ⟨(key 0).2.1, (key 0).2.2, fun t ht => by rw [(key t).1, if_neg ht]⟩ (holdsAll_ext VS (fun t ht => by rw [(key t).1, if_pos ht]) hV)
end
end Go.Proofs.YtefloadjolpgbaaDoor

namespace Go.Proofs.YtefloadjolpgbaaDoor
open Go.RowKit

def look : List (Tmp × Value) → Tmp → Option Value
  | [], _ => none
  | (k, v) :: r, t => match Nat.beq k t with
    | true => some v
    | false => look r t

def pick (L : List (Tmp × Value)) : List Tmp → List (Tmp × Value)
  | [] => []
  | t :: r => match look L t with
    | some v => (t, v) :: pick L r
    | none => pick L r

theorem look_cons_same (t : Tmp) (v : Value) (L : List (Tmp × Value)) : look ((t, v) :: L) t = some v := by
  simp [look]
theorem look_cons_ne {k t : Tmp} (v : Value) (L : List (Tmp × Value)) (h : k ≠ t) : look ((k, v) :: L) t = look L t := by
  have : Nat.beq k t = false := by
    rcases hb : Nat.beq k t with _ | _
    · rfl
    · exact absurd (Nat.eq_of_beq_eq_true hb) h
  simp [look, this]

/-- A frame of n slots, without deferred calls, of which so much is known. -/
structure Sl (n : Nat) (L : List (Tmp × Value)) (a : Act) : Prop where
  size : a.tmps.size = n
  nd : a.defers = []
  sees : ∀ t v, look L t = some v → a.eval (.tmp t) = v

section
variable {P : Program} {n : Nat} {L : List (Tmp × Value)} {a : Act}

theorem Sl.at (h : Sl n L a) (t : Tmp) {v : Value} (e : look L t = some v) : a.eval (.tmp t) = v := h.sees t v e

theorem Sl.put (h : Sl n L a) {d : Tmp} (hd : d < n) (v : Value) : Sl n ((d, v) :: L) (a.put (some d) v) := by
  refine ⟨by rw [Act.size_put, h.size], h.nd, fun t u e => ?_⟩
  by_cases hdt : d = t
  · subst hdt
    rw [look_cons_same] at e
    injection e with e
    rw [Act.eval_put_same _ (by rw [h.size]; exact hd), e]
  · rw [look_cons_ne _ _ hdt] at e
    rw [Act.eval_put_ne _ hdt, h.sees t u e]

theorem look_pick (ts : List Tmp) {t : Tmp} {v : Value} (h : look (pick L ts) t = some v) : look L t = some v := by
  induction ts with
  | nil => simp [pick, look] at h
  | cons s r ih =>
    rw [pick] at h
    rcases hs : look L s with _ | u
    · rw [hs] at h
      exact ih h
    · rw [hs] at h
      by_cases hst : s = t
      · subst hst
        rw [look_cons_same] at h
        rw [hs, h]
      · rw [look_cons_ne _ _ hst] at h
        exact ih h

/-- Of some slots alone. -/
theorem Sl.keep (h : Sl n L a) (ts : List Tmp) : Sl n (pick L ts) a := ⟨h.size, h.nd, fun t v e => h.sees t v (look_pick ts e)⟩

/-- One slot more. -/
theorem Sl.also (h : Sl n L a) {t : Tmp} {v : Value} (e : a.eval (.tmp t) = v) : Sl n ((t, v) :: L) a := ⟨h.size, h.nd, fun s u hs => by
  by_cases hts : t = s
  · subst hts
    rw [look_cons_same] at hs
    injection hs with hs
    rw [e, hs]
  · rw [look_cons_ne _ _ hts] at hs
    exact h.sees s u hs⟩

section ops
variable {ops : Array Oper} {Q : Exit → Act → World → Prop} {w : World} {rest : List Oper} {o : Oper} {d : Tmp}

/-- An operation that writes a slot. -/
theorem sl_op (h : Sl n L a) (hg : o.guard = none) (hd : o.dst = some d) (hn : d < n)
    (hop : ∀ K : Act → World → Prop, (∀ v w', (∀ a', Sl n ((d, v) :: L) a' → wpList P ops Q rest a' w') → K (a.put (some d) v) w') → o.wp P a w K Q) : wpList P ops Q (o :: rest) a w :=
  wpList_plain hg fun K hK => hop K fun v _ hk => hK _ _ (hk _ (h.put hn v))

/-- One that writes none. -/
theorem sl_op0 (h : Sl n L a) (hg : o.guard = none) (hd : o.dst = none)
    (hop : ∀ K : Act → World → Prop, (∀ w', (∀ a', Sl n L a' → wpList P ops Q rest a' w') → K a w') → o.wp P a w K Q) : wpList P ops Q (o :: rest) a w :=
  wpList_plain hg fun K hK => hop K fun _ hk => hK _ _ (hk _ h)

theorem sl_move {t : Tmp} {v : Value} (h : Sl n L a) (hg : o.guard = none) (hd : o.dst = some d) (ho : o.op = .move (.tmp t) ∨ o.op = .assign (.tmp t)) (hn : d < n) (hv : look L t = some v)
    (hk : ∀ a', Sl n ((d, v) :: L) a' → wpList P ops Q rest a' w) : wpList P ops Q (o :: rest) a w := by
  refine wpList_plain hg fun K hK => ?_
  have : K (a.put o.dst (a.eval (.tmp t))) w := by
    rw [h.sees t v hv, hd]
    exact hK _ _ (hk _ (h.put hn v))
  rcases ho with ho | ho
  · exact BigFrame.wp_move _ ho this
  · exact BigFrame.wp_assign _ ho this

theorem sl_const {v : Value} (h : Sl n L a) (hg : o.guard = none) (hd : o.dst = some d) (ho : o.op = .move (.const v) ∨ o.op = .assign (.const v)) (hn : d < n)
    (hk : ∀ a', Sl n ((d, v) :: L) a' → wpList P ops Q rest a' w) : wpList P ops Q (o :: rest) a w := by
  refine wpList_plain hg fun K hK => ?_
  have : K (a.put o.dst (a.eval (.const v))) w := by
    rw [hd]
    exact hK _ _ (hk _ (h.put hn v))
  rcases ho with ho | ho
  · exact BigFrame.wp_move _ ho this
  · exact BigFrame.wp_assign _ ho this

/-- A guarded operation that is wanted. -/
theorem sl_want {j g : Nat} {b : Bool} (h : Sl n L a) (hg : o.guard = some (j, b)) (hj : (ops[j]?).bind (·.dst) = some g) (hb : look L g = some (.bool b)) (hd : o.dst = some d) (hn : d < n)
    (hop : ∀ K : Act → World → Prop, (∀ v w', (∀ a', Sl n ((d, v) :: L) a' → wpList P ops Q rest a' w') → K (a.put (some d) v) w') → o.wp P a w K Q) : wpList P ops Q (o :: rest) a w := by
  have e := h.sees g _ hb
  have hw : Region.wanted o (yielded ops a.tmps) = true := by
    unfold Region.wanted yielded
    rw [hg]
    simp only [hj]
    have hgs : g < a.tmps.size := by
      rcases Nat.lt_or_ge g a.tmps.size with h | h
      · exact h
      · simp [Act.eval, Array.getElem?_eq_none h, undef] at e
    have : a.tmps[g]? = some (.bool b) := by
      simp [Act.eval, hgs] at e
      rw [Array.getElem?_eq_getElem hgs, e]
    simp [this]
  exact wpList_step fun K hK => by
    rw [if_pos hw]
    exact hop K fun v _ hk => hK _ _ (hk _ (h.put hn v))

/-- A guarded operation that is not. -/
theorem sl_skip {j g : Nat} {b : Bool} (h : Sl n L a) (hg : o.guard = some (j, b)) (hj : (ops[j]?).bind (·.dst) = some g) (hb : look L g = some (.bool (!b))) (hd : o.dst = some d) (hn : d < n)
    (hk : ∀ a', Sl n ((d, undef) :: L) a' → wpList P ops Q rest a' w) : wpList P ops Q (o :: rest) a w := by
  have e := h.sees g _ hb
  have hw : ¬ Region.wanted o (yielded ops a.tmps) = true := by
    unfold Region.wanted yielded
    rw [hg]
    simp only [hj]
    have hgs : g < a.tmps.size := by
      rcases Nat.lt_or_ge g a.tmps.size with h | h
      · exact h
      · simp [Act.eval, Array.getElem?_eq_none h, undef] at e
    have : a.tmps[g]? = some (.bool (!b)) := by
      simp [Act.eval, hgs] at e
      rw [Array.getElem?_eq_getElem hgs, e]
    simp [this]
  exact wpList_step fun K hK => by
    rw [if_neg hw, hd]
    exact hK _ _ (hk _ (h.put hn undef))
/-- A guarded operation whose guard was not carried out. -/
theorem sl_skip_u {j g : Nat} {b : Bool} (h : Sl n L a) (hg : o.guard = some (j, b)) (hj : (ops[j]?).bind (·.dst) = some g) (hb : look L g = some undef) (hd : o.dst = some d) (hn : d < n)
    (hk : ∀ a', Sl n ((d, undef) :: L) a' → wpList P ops Q rest a' w) : wpList P ops Q (o :: rest) a w := by
  have e := h.sees g _ hb
  have hw : ¬ Region.wanted o (yielded ops a.tmps) = true := by
    unfold Region.wanted yielded
    rw [hg]
    simp only [hj]
    rcases Nat.lt_or_ge g a.tmps.size with hgs | hgs
    · have : a.tmps[g]? = some undef := by
        simp [Act.eval, hgs] at e
        rw [Array.getElem?_eq_getElem hgs, e]
      simp [this, undef]
    · simp [Array.getElem?_eq_none hgs]
  exact wpList_step fun K hK => by
    rw [if_neg hw, hd]
    exact hK _ _ (hk _ (h.put hn undef))
end ops

/-! ### regions that draw their order -/

/-- The slots' values, ahead of what was known. -/
def laid (vs : Tmp → Value) : List Tmp → List (Tmp × Value) → List (Tmp × Value)
  | [], L => L
  | t :: r, L => (t, vs t) :: laid vs r L

theorem look_laid (vs : Tmp → Value) (D : List Tmp) (t : Tmp) : look (laid vs D L) t = if t ∈ D then some (vs t) else look L t := by
  induction D with
  | nil => simp [laid]
  | cons d r ih =>
    rw [laid]
    by_cases hdt : d = t
    · subst hdt
      rw [look_cons_same, if_pos (by simp)]
    · rw [look_cons_ne _ _ hdt, ih]
      by_cases ht : t ∈ r
      · rw [if_pos ht, if_pos (by simp [ht])]
      · rw [if_neg ht, if_neg (by simp [ht, Ne.symm hdt])]

theorem sl_flow {id : Nat} {ops : List Oper} {w : World} {Q : Exit → Act → World → Prop} (hm : P.follows .mixedOrders = true) {R : World → World → Prop}
    (VS : List (Tmp × St R)) (h : Sl n L a) (hok : flowOk ops.toArray (VS.map (·.1)) n = true) (hrefl : ∀ a, R a a) (htrans : ∀ a b c, R a b → R b c → R a c)
    (hops : FlowAll2 P ops.toArray VS Q a w.drew ops)
    (hfin : ∀ w' a' vs, R w.drew w' → HoldsAll vs w' VS → Sl n (laid vs (VS.map (·.1)) L) a' → Q .normal a' w') :
    (Code.region id ops.toArray true).wp P Q a w := by
  have hs := h.size
  have hok' := hok
  simp only [flowOk, Bool.and_eq_true, decide_eq_true_eq, List.all_eq_true] at hok'
  refine wp_flow2 hm VS (by rw [hs]; exact hok) hrefl htrans hops fun w' vs hR hV => hfin w' _ vs hR hV ?_
  have key := fun t => putAll_eval vs (VS.map (·.1)) a t hok'.1.2 (fun d hd => by rw [hs]; exact hok'.1.1.2 d hd)
  refine ⟨by rw [(key 0).2.1, hs], by rw [(key 0).2.2, h.nd], fun t v e => ?_⟩
  rw [look_laid] at e
  rw [(key t).1]
  split at e
  · rename_i ht
    rw [if_pos ht]
    injection e
  · rename_i ht
    rw [if_neg ht]
    exact h.sees t v e

theorem sl_flow3 {id : Nat} {ops : List Oper} {w : World} {Q : Exit → Act → World → Prop} (hm : P.follows .mixedOrders = true) {R : World → World → Prop}
    (wr : List Nat) (ms : List (Option Nat)) (VS : List (Tmp × St R)) (Ph : Nat → World → Prop) (h : Sl n L a) (hok : flowOk ops.toArray (VS.map (·.1)) n = true) (hch : chainOk ops.toArray wr = true) (hms : marksOk wr ms = true)
    (hrefl : ∀ a, R a a) (htrans : ∀ a b c, R a b → R b c → R a c) (h0 : Ph 0 w.drew)
    (hops : FlowAll4 P ops.toArray VS Q a w.drew Ph ms ops)
    (hfin : ∀ w' a' vs, R w.drew w' → Ph wr.length w' → HoldsAll vs w' VS → Sl n (laid vs (VS.map (·.1)) L) a' → Q .normal a' w') :
    (Code.region id ops.toArray true).wp P Q a w := by
  have hs := h.size
  have hok' := hok
  simp only [flowOk, Bool.and_eq_true, decide_eq_true_eq, List.all_eq_true] at hok'
  refine wp_flow3 hm wr ms VS Ph (by rw [hs]; exact hok) hch hms hrefl htrans h0 hops fun w' vs hR hP hV => hfin w' _ vs hR hP hV ?_
  have key := fun t => putAll_eval vs (VS.map (·.1)) a t hok'.1.2 (fun d hd => by rw [hs]; exact hok'.1.1.2 d hd)
  refine ⟨by rw [(key 0).2.1, hs], by rw [(key 0).2.2, h.nd], fun t v e => ?_⟩
  rw [look_laid] at e
  rw [(key t).1]
  split at e
  · rename_i ht
    rw [if_pos ht]
    injection e
  · rename_i ht
    rw [if_neg ht]
    exact h.sees t v e

/-! ### a call; its end -/

def argL : List Value → Nat → List (Tmp × Value)
  | [], _ => []
  | v :: r, i => (i, v) :: argL r (i + 1)
theorem look_argL : ∀ (l : List Value) (i t : Nat) (v : Value), look (argL l i) t = some v → i ≤ t ∧ l[t - i]? = some v
  | [], i, t, v, h => by simp [argL, look] at h
  | x :: r, i, t, v, h => by
    rw [argL] at h
    by_cases hit : i = t
    · subst hit
      rw [look_cons_same] at h
      injection h with h
      simp [h]
    · rw [look_cons_ne _ _ hit] at h
      obtain ⟨h1, h2⟩ := look_argL r (i + 1) t v h
      refine ⟨by omega, ?_⟩
      rw [show t - i = (t - (i + 1)) + 1 by omega]
      simpa using h2

theorem sl_enter {f : FuncId} {fn : Func} {c : Code} {args : List Value} {w : World} {R : Ending → World → Prop} (hf : P.funcs[f]? = some fn) (hb : fn.body = some c) (hn : fn.ntmps = n) (ha : args.length ≤ n)
    (h : ∀ a, Sl n (argL args 0) a → c.wp P (bodyPost P fn R) a w) : Calls P f args.toArray w R := by
  refine calls_of_wp hf hb (h _ ⟨?_, rfl, fun t v e => ?_⟩)
  · simp [hn]
    omega
  · obtain ⟨_, h2⟩ := look_argL _ _ _ _ e
    have hl := (List.getElem?_eq_some_iff.1 h2).1
    simp only [Nat.sub_zero] at h2 hl
    simp only [Act.eval, Array.getD_eq_getD_getElem?, Array.getElem?_append, List.size_toArray, hl, if_true, List.getElem?_toArray, h2, Option.getD_some]

theorem sl_ret1 {fn : Func} {R : Ending → World → Prop} {w : World} {t : Tmp} {v : Value} (h : Sl n L a) (hr : fn.results = #[.tmp t]) (e : look L t = some v) (hR : R (.returned v) w) : bodyPost P fn R .ret a w :=
  bodyPost_ret (results_tmp hr _ _ _) h.nd (by have := h.sees t v e; simp only [Act.eval] at this; rw [this]; exact hR)
theorem sl_ret2 {fn : Func} {R : Ending → World → Prop} {w : World} {t u : Tmp} {v x : Value} (h : Sl n L a) (hr : fn.results = #[.tmp t, .tmp u]) (e : look L t = some v) (e' : look L u = some x) (hR : R (.returned (.tuple #[v, x])) w) : bodyPost P fn R .ret a w :=
  bodyPost_ret (results_tmp2 hr _ _ _) h.nd (by have h1 := h.sees t v e; have h2 := h.sees u x e'; simp only [Act.eval] at h1 h2; rw [h1, h2]; exact hR)

/-! ### parts of a function's text -/

/-- The part of the code at this path: 0 the first, 1 the second of two; 0 what stands within. -/
def part : List Nat → Code → Code
  | [], c => c
  | 0 :: p, .seq x _ => part p x
  | 1 :: p, .seq _ y => part p y
  | 0 :: p, .cond _ x _ => part p x
  | 1 :: p, .cond _ _ y => part p y
  | 0 :: p, .block _ c => part p c
  | 0 :: p, .loop c => part p c
  | 0 :: p, .scope c => part p c
  | _, _ => .skip
end
end Go.Proofs.YtefloadjolpgbaaDoor
