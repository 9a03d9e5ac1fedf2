/- Parts of the proof of StoreActs, joined: Flow3 StaW. -/
import Derived.Test.YtjmehamkpmimkaaStoreActsj8
namespace Go.Proofs.Ytjmehamkpmimkaa
open Go.RowKit

section
variable {P : Program}

/-- The writing operations: each is there, and told to come behind the one ahead of it. -/
def chainOk (ops : Array Oper) (wr : List Nat) : Bool :=
  (wr.all fun i => decide (i < ops.size)) && decide wr.Nodup &&
  (List.range wr.length).all fun j => match j with
    | 0 => true
    | k + 1 => match wr[k + 1]?, wr[k]? with
      | some i, some h => match ops[i]? with
        | some o => o.after.toList.any fun e => Region.binds .any e && e.on == h
        | none => false
      | _, _ => false

/-- How far the writing operations have come. -/
def Phase (wr : List Nat) (Ph : Nat → World → Prop) (listed : Array Bool) (w : World) : Prop :=
  ∃ k, k ≤ wr.length ∧ (∀ (j i : Nat), wr[j]? = some i → (listed.getD i false = true ↔ j < k)) ∧ Ph k w

theorem Phase.all {wr : List Nat} {Ph : Nat → World → Prop} {listed : Array Bool} {w : World} (h : Phase wr Ph listed w) (ha : ∀ i, i ∈ wr → listed.getD i false = true) : Ph wr.length w := by
  obtain ⟨k, hk, hl, hp⟩ := h
  rcases Nat.lt_or_ge k wr.length with hlt | hge
  · exfalso
    have hi : wr[k]? = some wr[k] := List.getElem?_eq_getElem hlt
    have := (hl k _ hi).1 (ha _ (List.mem_of_getElem? hi))
    omega
  · obtain rfl : k = wr.length := by omega
    exact hp

theorem Phase.step {ops : Array Oper} {wr : List Nat} {Ph : Nat → World → Prop} {listed : Array Bool} {w : World} {i : Nat} {o : Oper} (h : Phase wr Ph listed w) (hwr : chainOk ops wr = true)
    (hlf : listed.getD i false = false) (hil : i < listed.size) (ho : ops[i]? = some o) (he : ∀ e ∈ o.after, Region.binds .any e = true → listed.getD e.on false = true) :
    ∃ k, (∀ j, wr[j]? = some i → k = j) ∧ Ph k w ∧ ∀ w', Ph (if i ∈ wr then k + 1 else k) w' → Phase wr Ph (listed.setIfInBounds i true) w' := by
  obtain ⟨k, hk, hl, hp⟩ := h
  unfold chainOk at hwr
  simp only [Bool.and_eq_true, List.all_eq_true, decide_eq_true_eq, List.mem_range] at hwr
  obtain ⟨⟨hin, hnd⟩, hch⟩ := hwr
  have hkey : ∀ j, wr[j]? = some i → k = j := by
    intro j hj
    have h1 : ¬ j < k := fun hjk => by have := (hl j i hj).2 hjk; rw [hlf] at this; cases this
    rcases j with _ | m
    · omega
    · have hjl := (List.getElem?_eq_some_iff.1 hj).1
      have hm : wr[m]? = some wr[m] := List.getElem?_eq_getElem (by omega)
      have hc := hch (m + 1) hjl
      simp only [hj, hm, ho] at hc
      simp only [List.any_eq_true, Bool.and_eq_true, beq_iff_eq] at hc
      obtain ⟨e, hem, hb, hon⟩ := hc
      have hlm := he e (Array.mem_toList_iff.1 hem) hb
      rw [hon] at hlm
      have := (hl m _ hm).1 hlm
      omega
  refine ⟨k, hkey, hp, fun w' hw' => ?_⟩
  by_cases hi : i ∈ wr
  · rw [if_pos hi] at hw'
    obtain ⟨j, hj⟩ := List.getElem?_of_mem hi
    obtain rfl := hkey j hj
    have hjl := (List.getElem?_eq_some_iff.1 hj).1
    refine ⟨k + 1, by omega, fun m x hx => ?_, hw'⟩
    by_cases hxi : i = x
    · subst hxi
      rw [getD_set_same false hil]
      have : m = k := by
        have h1 := (List.getElem?_eq_some_iff.1 hx)
        have h2 := (List.getElem?_eq_some_iff.1 hj)
        obtain ⟨p1, q1⟩ := h1
        obtain ⟨p2, q2⟩ := h2
        exact (List.getElem_inj hnd).1 (q1.trans q2.symm)
      simp; omega
    · rw [getD_set_other false hxi, hl m x hx]
      have : m ≠ k := fun e => by subst e; rw [hx] at hj; injection hj with hj; exact hxi hj.symm
      omega
  · rw [if_neg hi] at hw'
    refine ⟨k, hk, fun m x hx => ?_, hw'⟩
    have hxi : i ≠ x := fun e => by subst e; exact hi (List.mem_of_getElem? hx)
    rw [getD_set_other false hxi]
    exact hl m x hx

/-- What is asked of one operation, in each phase in which it may come up. -/
def FlowOp3 (P : Program) (ops : Array Oper) (V : Tmp → Value → World → Prop) (R : World → World → Prop) (Q : Exit → Act → World → Prop) (D : List Tmp) (a0 : Act) (w0 : World) (wr : List Nat) (Ph : Nat → World → Prop) (i : Nat) (o : Oper) : Prop :=
  ∀ (a : Act) (w : World) (k : Nat), R w0 w → Ph k w → (∀ j, wr[j]? = some i → k = j) → KnownAll V D a0 a w (o.looksAt ops) →
    match o.guard with
    | none => o.wp P a w (fun a' w' => ∃ v, a' = a.put o.dst v ∧ R w w' ∧ Ph (if i ∈ wr then k + 1 else k) w' ∧ ∀ d, o.dst = some d → V d v w') Q
    | some (j, want) =>
      (a.eval (.tmp (((ops[j]?).bind (·.dst)).getD 0)) = .bool want → o.wp P a w (fun a' w' => ∃ v, a' = a.put o.dst v ∧ R w w' ∧ Ph (if i ∈ wr then k + 1 else k) w' ∧ ∀ d, o.dst = some d → V d v w') Q) ∧
      (a.eval (.tmp (((ops[j]?).bind (·.dst)).getD 0)) ≠ .bool want → i ∉ wr ∧ ∀ d, o.dst = some d → V d undef w)

theorem flow3_any {ops : Array Oper} {V : Tmp → Value → World → Prop} {R : World → World → Prop} {Q : Exit → Act → World → Prop} {D : List Tmp} {a0 : Act} {w0 : World} {wr : List Nat} {Ph : Nat → World → Prop}
    (hok : flowOk ops D a0.tmps.size = true) (hwr : chainOk ops wr = true) (hrefl : ∀ a, R a a) (htrans : ∀ a b c, R a b → R b c → R a c) (hst : ∀ t v w w', V t v w → R w w' → V t v w')
    (hops : ∀ (i : Nat) (o : Oper), ops[i]? = some o → FlowOp3 P ops V R Q D a0 w0 wr Ph i o)
    (hfin : ∀ w' (vs : Tmp → Value), R w0 w' → Ph wr.length w' → (∀ t, t ∈ D → V t (vs t) w') → Q .normal (D.foldl (fun a d => a.put (some d) (vs d)) a0) w') :
    ∀ (fuel : Nat) (listed : Array Bool) (a : Act) (w : World), FlowInv ops V R a0 w0 listed a w → Phase wr Ph listed w → (∀ j, j < ops.size → listed.getD j false = false → 0 < fuel) → listed.toList.count false ≤ fuel → wpAny P .any ops Q fuel listed a w := by
  simp only [flowOk, Bool.and_eq_true, beq_iff_eq, decide_eq_true_eq, List.all_eq_true] at hok
  obtain ⟨⟨⟨hdst, hlt⟩, hnd⟩, hform⟩ := hok
  have form : ∀ i o, ops[i]? = some o → (∀ e ∈ o.after, Region.binds .any e = true → e.on < i) ∧ (∀ t ∈ o.looksAt ops, t ∈ D → ∃ e ∈ o.after, Region.binds .any e = true ∧ (ops[e.on]?).bind (·.dst) = some t) ∧ (∀ j b, o.guard = some (j, b) → ((ops[j]?).bind (·.dst)).isSome = true) := by
    intro i o ho
    have hmem : (o, i) ∈ ops.toList.zipIdx := by
      rw [List.mk_mem_zipIdx_iff_getElem?, Array.getElem?_toList]
      exact ho
    have h := hform (o, i) hmem
    simp only [Bool.and_eq_true, Bool.or_eq_true, Bool.not_eq_true', decide_eq_true_eq, List.any_eq_true, beq_iff_eq] at h
    refine ⟨fun e he hb => ?_, fun t ht htD => ?_, fun j b hg => ?_⟩
    · rcases h.1.1 e (Array.mem_toList_iff.2 he) with h' | h'
      · rw [hb] at h'; cases h'
      · exact h'
    · rcases h.1.2 t ht with h' | h'
      · have : D.contains t = true := List.contains_iff_mem.2 htD
        rw [this] at h'; cases h'
      · obtain ⟨e, he, hb, hd⟩ := h'
        exact ⟨e, Array.mem_toList_iff.1 he, hb, hd⟩
    · have h2 := h.2
      rw [hg] at h2
      exact h2
  have memD : ∀ t, t ∈ D ↔ ∃ (j : Nat) (o : Oper), ops[j]? = some o ∧ o.dst = some t := by
    intro t
    rw [← hdst, List.mem_filterMap]
    constructor
    · rintro ⟨o, ho, hd⟩
      obtain ⟨j, hj⟩ := List.getElem?_of_mem ho
      exact ⟨j, o, by rw [← Array.getElem?_toList]; exact hj, hd⟩
    · rintro ⟨j, o, ho, hd⟩
      exact ⟨o, Array.mem_toList_iff.2 (Array.mem_of_getElem? ho), hd⟩
  have uniq : ∀ (i j : Nat) (o o' : Oper) (t : Tmp), ops[i]? = some o → ops[j]? = some o' → o.dst = some t → o'.dst = some t → i = j := by
    have key : ∀ (l : List Oper), (l.filterMap (·.dst)).Nodup → ∀ (i j : Nat) (o o' : Oper) (t : Tmp), l[i]? = some o → l[j]? = some o' → o.dst = some t → o'.dst = some t → i = j := by
      intro l
      induction l with
      | nil => intro _ i j o o' t h; simp at h
      | cons x l ih =>
        intro hn i j o o' t hi hj hd hd'
        have hn' : (l.filterMap (·.dst)).Nodup := by
          cases hx : x.dst with
          | none => rw [List.filterMap_cons_none hx] at hn; exact hn
          | some d => rw [List.filterMap_cons_some hx] at hn; exact (List.nodup_cons.1 hn).2
        have hno : ∀ (k : Nat) (y : Oper), x.dst = some t → l[k]? = some y → y.dst = some t → False := by
          intro k y hx hk hy
          rw [List.filterMap_cons_some hx] at hn
          exact (List.nodup_cons.1 hn).1 (List.mem_filterMap.2 ⟨y, List.mem_of_getElem? hk, hy⟩)
        match i, j, hi, hj with
        | 0, 0, _, _ => rfl
        | 0, j + 1, hi, hj =>
          simp only [List.getElem?_cons_zero, Option.some.injEq] at hi
          simp only [List.getElem?_cons_succ] at hj
          subst hi
          exact (hno j o' hd hj hd').elim
        | i + 1, 0, hi, hj =>
          simp only [List.getElem?_cons_zero, Option.some.injEq] at hj
          simp only [List.getElem?_cons_succ] at hi
          subst hj
          exact (hno i o hd' hi hd).elim
        | i + 1, j + 1, hi, hj =>
          simp only [List.getElem?_cons_succ] at hi hj
          rw [ih hn' i j o o' t hi hj hd hd']
    intro i j o o' t hi hj
    exact key ops.toList (by rw [hdst]; exact hnd) i j o o' t (by rw [Array.getElem?_toList]; exact hi) (by rw [Array.getElem?_toList]; exact hj)
  have hin : ∀ j, j ∈ wr → j < ops.size := by
    unfold chainOk at hwr
    simp only [Bool.and_eq_true, List.all_eq_true, decide_eq_true_eq] at hwr
    exact hwr.1.1
  -- where nothing may come up, all has
  have done_ : ∀ listed : Array Bool, listed.size = ops.size → Region.ready .any ops listed = [] → ∀ j, j < ops.size → listed.getD j false = true := by
    intro listed hls hr j
    induction j using Nat.strongRecOn with
    | _ j ih =>
      intro hj
      by_cases hl : listed.getD j false = true
      · exact hl
      · exfalso
        have hmem : j ∈ Region.ready .any ops listed := by
          refine mem_ready.2 ⟨?_, ops[j], Array.getElem?_eq_getElem hj, fun e he hb => ?_⟩
          · have : j < listed.size := by omega
            simp [this] at hl ⊢
            exact hl
          · have hon := (form j _ (Array.getElem?_eq_getElem hj)).1 e he hb
            exact ih e.on hon (by omega)
        rw [hr] at hmem
        cases hmem
  -- the end
  have fin_ : ∀ (listed : Array Bool) (a : Act) (w : World), FlowInv ops V R a0 w0 listed a w → Phase wr Ph listed w → (∀ j, j < ops.size → listed.getD j false = true) → Q .normal a w := by
    intro listed a w inv hph hall
    have hV : ∀ t, t ∈ D → V t (a.eval (.tmp t)) w := by
      intro t ht
      obtain ⟨j, o, ho, hd⟩ := (memD t).1 ht
      exact inv.inn j o t ho hd (hall j (Array.getElem?_eq_some_iff.1 ho).1)
    have h := hfin w (fun t => a.eval (.tmp t)) inv.world (hph.all (fun j hj => hall _ (hin j hj))) hV
    have e : D.foldl (fun b d => b.put (some d) (a.eval (.tmp d))) a0 = a := by
      have hp := fun t => putAll_eval (fun d => a.eval (.tmp d)) D a0 t hnd (fun d hd => by simpa using hlt d hd)
      refine act_ext (by rw [(hp 0).2.1, inv.size]) (by rw [(hp 0).2.2, inv.defers]) fun t => ?_
      rw [(hp t).1]
      split
      · rfl
      · rename_i ht
        refine (inv.out t fun j o ho hd => ?_).symm
        exact (ht ((memD t).2 ⟨j, o, ho, hd⟩)).elim
    rw [e] at h
    exact h
  intro fuel
  induction fuel with
  | zero =>
    intro listed a w inv hph h0 hc
    have hall : ∀ j, j < ops.size → listed.getD j false = true := by
      intro j hj
      by_cases hl : listed.getD j false = true
      · exact hl
      · exact absurd (h0 j hj (by simpa using hl)) (by omega)
    refine ⟨?_, fin_ listed a w inv hph hall⟩
    rcases hr : Region.ready .any ops listed with _ | ⟨i, r⟩
    · rfl
    · exfalso
      have hi : i ∈ Region.ready .any ops listed := by rw [hr]; simp
      obtain ⟨hl, o, ho, _⟩ := mem_ready.1 hi
      have hil : i < ops.size := (Array.getElem?_eq_some_iff.1 ho).1
      have := hall i hil
      have hil' : i < listed.size := by rw [inv.lsize]; exact hil
      simp [hil'] at hl this
      rw [hl] at this
      cases this
  | succ fuel ih =>
    intro listed a w inv hph _ hc
    refine ⟨fun hr => fin_ listed a w inv hph (done_ listed inv.lsize hr), fun i hi => ?_⟩
    obtain ⟨hl, o, ho, hedges⟩ := mem_ready.1 hi
    have hio : i < ops.size := (Array.getElem?_eq_some_iff.1 ho).1
    have hil : i < listed.size := by rw [inv.lsize]; exact hio
    have hlf : listed.getD i false = false := by simp [hil] at hl ⊢; exact hl
    obtain ⟨hback, hlook, hguard⟩ := form i o ho
    have hk : KnownAll V D a0 a w (o.looksAt ops) := knownAll_of _ fun t ht => by
      unfold Known
      split
      · rename_i htD
        obtain ⟨e, he, hb, hd⟩ := hlook t ht htD
        obtain ⟨oj, hoj, hdj⟩ := Option.bind_eq_some_iff.1 hd
        exact inv.inn e.on oj t hoj hdj (hedges e he hb)
      · rename_i htD
        exact inv.out t fun j oj hoj hdj => (htD ((memD t).2 ⟨j, oj, hoj, hdj⟩)).elim
    obtain ⟨kk, hkk, hpw, hnext⟩ := hph.step hwr hlf hil ho hedges
    have hop := hops i o ho a w kk inv.world hpw hkk hk
    have hcount : (listed.setIfInBounds i true).toList.count false ≤ fuel := by
      have e : listed.toList = listed.toList.take i ++ false :: listed.toList.drop (i + 1) := by
        have hi2 : i < listed.toList.length := by simpa using hil
        have hg : listed.toList[i] = false := by
          simp [hil] at hlf
          simpa using hlf
        rw [← hg]
        conv => lhs; rw [← List.take_append_drop i listed.toList, List.drop_eq_getElem_cons hi2]
      have e' : (listed.setIfInBounds i true).toList = listed.toList.take i ++ true :: listed.toList.drop (i + 1) := by
        rw [Array.toList_setIfInBounds, List.set_eq_take_append_cons_drop, if_pos (by simpa using hil)]
      rw [e] at hc
      rw [e']
      simp only [List.count_append, List.count_cons] at hc ⊢
      simp at hc ⊢
      omega
    have step : ∀ v w', R w w' → Ph (if i ∈ wr then kk + 1 else kk) w' → (∀ d, o.dst = some d → V d v w') → wpAny P .any ops Q fuel (listed.setIfInBounds i true) (a.put o.dst v) w' := by
      intro v w' hR hPh hv
      have hinv : FlowInv ops V R a0 w0 (listed.setIfInBounds i true) (a.put o.dst v) w' := by
        refine ⟨by simp [inv.lsize], htrans _ _ _ inv.world hR, ?_, by rw [Act.size_put, inv.size], ?_, ?_⟩
        · cases h : o.dst <;> simp [Act.put, inv.defers]
        · intro t ht
          cases hd : o.dst with
          | none =>
            refine inv.out t fun j oj hoj hdj => ?_
            have hji : i ≠ j := fun e => by
              subst e
              rw [ho] at hoj
              injection hoj with hoj
              subst hoj
              rw [hd] at hdj
              cases hdj
            have := ht j oj hoj hdj
            rwa [getD_set_other false hji] at this
          | some d =>
            have htd : d ≠ t := fun e => by
              subst e
              have := ht i o ho hd
              rw [getD_set_same false hil] at this
              cases this
            rw [Act.eval_put_ne _ htd]
            refine inv.out t fun j oj hoj hdj => ?_
            have hji : i ≠ j := fun e => by
              subst e
              rw [ho] at hoj
              injection hoj with hoj
              subst hoj
              rw [hd] at hdj
              injection hdj with hdj
              exact htd hdj
            have := ht j oj hoj hdj
            rwa [getD_set_other false hji] at this
        · intro j oj t hoj hdj hlj
          by_cases hji : i = j
          · subst hji
            rw [ho] at hoj
            injection hoj with hoj
            subst hoj
            rw [hdj, Act.eval_put_same _ (by rw [inv.size]; have := hlt t ((memD t).2 ⟨i, o, ho, hdj⟩); simpa using this)]
            exact hv t hdj
          · rw [getD_set_other false hji] at hlj
            have hvj := hst t _ _ _ (inv.inn j oj t hoj hdj hlj) hR
            cases hd : o.dst with
            | none => exact hvj
            | some d =>
              have : d ≠ t := fun e => by
                subst e
                exact hji (uniq i j o oj d ho hoj hd hdj)
              rw [Act.eval_put_ne _ this]
              exact hvj
      refine ih (listed.setIfInBounds i true) (a.put o.dst v) w' hinv (hnext w' hPh) (fun j hj hlj => ?_) hcount
      rcases Nat.eq_zero_or_pos fuel with h0 | h0
      · exfalso
        have hz : (listed.setIfInBounds i true).toList.count false = 0 := by omega
        rw [List.count_eq_zero] at hz
        have hjl : j < (listed.setIfInBounds i true).size := by rw [Array.size_setIfInBounds, inv.lsize]; exact hj
        refine hz ?_
        have hget : (listed.setIfInBounds i true)[j] = false := by
          rw [Array.getD_eq_getD_getElem?, Array.getElem?_eq_getElem hjl] at hlj
          simpa using hlj
        rw [← hget]
        exact Array.mem_toList_iff.2 (Array.getElem_mem hjl)
      · exact h0
    unfold wpOp
    simp only [ho]
    cases hg : o.guard with
    | none =>
      rw [hg] at hop
      simp only [Region.wanted, hg, if_true]
      refine .inl (Oper.wp_mono ?_ hop)
      rintro a' w' ⟨v, rfl, hR, hPh, hv⟩
      exact step v w' hR hPh hv
    | some jb =>
      obtain ⟨j, b⟩ := jb
      rw [hg] at hop
      have hsome := hguard j b hg
      obtain ⟨gd, hgd⟩ := Option.isSome_iff_exists.1 hsome
      dsimp only at hop
      rw [hgd] at hop
      simp only [Option.getD_some] at hop
      have hy : yielded ops a.tmps j = (match a.tmps[gd]? with | some (.bool c) => some c | _ => none) := by
        unfold yielded
        rw [hgd]
        rfl
      by_cases hgv : a.eval (.tmp gd) = .bool b
      · have hop := hop.1 hgv
        have hgs : gd < a.tmps.size := by
          rcases Nat.lt_or_ge gd a.tmps.size with h | h
          · exact h
          · simp [Act.eval, Array.getElem?_eq_none h, undef] at hgv
        have : a.tmps[gd]? = some (.bool b) := by
          simp [Act.eval, hgs] at hgv
          rw [Array.getElem?_eq_getElem hgs, hgv]
        have hw : Region.wanted o (yielded ops a.tmps) = true := by
          unfold Region.wanted
          rw [hg]
          show (yielded ops a.tmps j == some b) = true
          rw [hy, this]
          simp
        rw [if_pos hw]
        refine .inl (Oper.wp_mono ?_ hop)
        rintro a' w' ⟨v, rfl, hR, hPh, hv⟩
        exact step v w' hR hPh hv
      · have hop := hop.2 hgv
        have : (yielded ops a.tmps j == some b) = false := by
          rw [hy]
          rcases hx : a.tmps[gd]? with _ | x
          · rfl
          · cases x <;> try rfl
            rename_i c
            simp only [beq_eq_false_iff_ne, ne_eq, Option.some.injEq]
            intro hcb
            subst hcb
            refine hgv ?_
            simp [Act.eval, hx]
        have hw : ¬ Region.wanted o (yielded ops a.tmps) = true := by
          unfold Region.wanted
          rw [hg]
          show ¬ (yielded ops a.tmps j == some b) = true
          rw [this]
          simp
        rw [if_neg hw]
        exact step undef w (hrefl w) (by rw [if_neg hop.1]; exact hpw) hop.2


/-- What an operation leaves. -/
def Leaves3 {R : World → World → Prop} (VS : List (Tmp × St R)) (Ph : World → Prop) (a : Act) (w : World) (dst : Option Tmp) (a' : Act) (w' : World) : Prop :=
  ∃ v, a' = a.put dst v ∧ R w w' ∧ Ph w' ∧ ∀ d, dst = some d → Holds VS v w' d

theorem leaves3_of {R : World → World → Prop} {VS : List (Tmp × St R)} {Ph : World → Prop} {a : Act} {w w' : World} {d : Tmp} {v : Value} (hR : R w w') (hP : Ph w') (h : Holds VS v w' d) : Leaves3 VS Ph a w (some d) (a.put (some d) v) w' :=
  ⟨v, rfl, hR, hP, fun e he => by injection he with he; subst he; exact h⟩

/-- What is asked of operation number i: of a writing one (m: how many are ahead of it), of another. -/
def FlowOp4 (P : Program) (ops : Array Oper) {R : World → World → Prop} (VS : List (Tmp × St R)) (Q : Exit → Act → World → Prop) (a0 : Act) (w0 : World) (Ph : Nat → World → Prop) (at_ : Option Nat) (o : Oper) : Prop :=
  ∀ (a : Act) (w : World) (k : Nat), R w0 w → Ph k w → (match at_ with | some m => k = m | none => True) → Seen VS a0 a w (o.looksAt ops) →
    match o.guard with
    | none => o.wp P a w (Leaves3 VS (Ph (match at_ with | some m => m + 1 | none => k)) a w o.dst) Q
    | some (j, want) =>
      (a.eval (.tmp (((ops[j]?).bind (·.dst)).getD 0)) = .bool want → o.wp P a w (Leaves3 VS (Ph (match at_ with | some m => m + 1 | none => k)) a w o.dst) Q) ∧
      (a.eval (.tmp (((ops[j]?).bind (·.dst)).getD 0)) ≠ .bool want → at_ = none ∧ ∀ d, o.dst = some d → Holds VS undef w d)

def FlowAll4 (P : Program) (ops : Array Oper) {R : World → World → Prop} (VS : List (Tmp × St R)) (Q : Exit → Act → World → Prop) (a0 : Act) (w0 : World) (Ph : Nat → World → Prop) : List (Option Nat) → List Oper → Prop
  | m :: ms, o :: r => FlowOp4 P ops VS Q a0 w0 Ph m o ∧ FlowAll4 P ops VS Q a0 w0 Ph ms r
  | [], [] => True
  | _, _ => False

theorem flowAll4_at {ops : Array Oper} {R : World → World → Prop} {VS : List (Tmp × St R)} {Q : Exit → Act → World → Prop} {a0 : Act} {w0 : World} {Ph : Nat → World → Prop} :
    ∀ (ms : List (Option Nat)) (l : List Oper), FlowAll4 P ops VS Q a0 w0 Ph ms l → ∀ (i : Nat) (o : Oper), l[i]? = some o → ∃ m, ms[i]? = some m ∧ FlowOp4 P ops VS Q a0 w0 Ph m o
  | [], [], _, i, o, h => by simp at h
  | m :: ms, x :: r, hf, 0, o, h => by
    simp at h
    subst h
    exact ⟨m, rfl, hf.1⟩
  | m :: ms, x :: r, hf, i + 1, o, h => by
    simp at h
    obtain ⟨m', h1, h2⟩ := flowAll4_at ms r hf.2 i o h
    exact ⟨m', by simpa using h1, h2⟩
  | [], _ :: _, hf, _, _, _ => hf.elim
  | _ :: _, [], hf, _, _, _ => hf.elim

/-- The marks of a region's operations: the writing ones numbered on. -/
def marksOk (wr : List Nat) (ms : List (Option Nat)) : Bool :=
  ms.zipIdx.all fun (m, i) => match m with
    | some j => wr[j]? == some i
    | none => !wr.contains i

/-- A region that draws its order and holds writing operations that come one behind the other (wr: their numbers; ms: the mark of each operation). -/
theorem wp_flow3 {id : Nat} {ops : List Oper} {a0 : Act} {w : World} {Q : Exit → Act → World → Prop} (hm : P.follows .mixedOrders = true) {R : World → World → Prop}
    (wr : List Nat) (ms : List (Option Nat)) (VS : List (Tmp × St R)) (Ph : Nat → World → Prop) (hok : flowOk ops.toArray (VS.map (·.1)) a0.tmps.size = true) (hch : chainOk ops.toArray wr = true) (hms : marksOk wr ms = true)
    (hrefl : ∀ a, R a a) (htrans : ∀ a b c, R a b → R b c → R a c) (h0 : Ph 0 w.drew)
    (hops : FlowAll4 P ops.toArray VS Q a0 w.drew Ph ms ops)
    (hfin : ∀ w' (vs : Tmp → Value), R w.drew w' → Ph wr.length w' → HoldsAll vs w' VS → Q .normal ((VS.map (·.1)).foldl (fun a d => a.put (some d) (vs d)) a0) w') :
    (Code.region id ops.toArray true).wp P Q a0 w := by
  have hnd : (VS.map (·.1)).Nodup := by
    simp only [flowOk, Bool.and_eq_true, decide_eq_true_eq] at hok
    exact hok.1.2
  refine wp_region_any hm ?_
  refine flow3_any (R := R) (V := fun t v w => Holds VS v w t) (D := VS.map (·.1)) (a0 := a0) (w0 := w.drew) (wr := wr) (Ph := Ph) hok hch hrefl htrans ?_ ?_ (fun w' vs hR hP hV => hfin w' vs hR hP (holdsAll_of VS hnd hV)) _ _ _ _ ?_ ?_ ?_ ?_
  · intro t v w w' h hR
    unfold Holds at *
    cases hs : slot VS t with
    | none => trivial
    | some s => rw [hs] at h; exact s.st _ _ _ h hR
  · intro i o ho a wa k hR hP hkj hk
    have ho' : ops[i]? = some o := by simpa using ho
    obtain ⟨m, hmi, hop⟩ := flowAll4_at ms ops hops i o ho'
    have hseen : ∀ l, KnownAll (fun t v w => Holds VS v w t) (VS.map (·.1)) a0 a wa l → Seen VS a0 a wa l := by
      intro l
      induction l with
      | nil => intro _; trivial
      | cons t l ihl =>
        rintro ⟨k1, k2⟩
        refine ⟨?_, ihl k2⟩
        unfold Known at k1
        have hm := slot_mem VS t
        cases hs : slot VS t with
        | none =>
          rw [hs] at hm
          rw [if_neg (fun h => by have := hm.1 h; simp at this)] at k1
          exact k1
        | some s =>
          rw [hs] at hm
          rw [if_pos (hm.2 rfl)] at k1
          unfold Holds at k1
          rw [hs] at k1
          exact k1
    have hmem : (m, i) ∈ ms.zipIdx := by
      rw [List.mk_mem_zipIdx_iff_getElem?]
      exact hmi
    have hmk := List.all_eq_true.1 hms (m, i) hmem
    have hh := hop a wa k hR hP
    cases m with
    | some j =>
      simp only [beq_iff_eq] at hmk
      obtain rfl := hkj j hmk
      have hiw : i ∈ wr := List.mem_of_getElem? hmk
      have hh := hh rfl (hseen _ hk)
      simp only [hiw, if_true]
      cases hg : o.guard with
      | none => rw [hg] at hh; exact hh
      | some jb =>
        obtain ⟨jj, b⟩ := jb
        rw [hg] at hh
        exact ⟨hh.1, fun hne => by have := (hh.2 hne).1; cases this⟩
    | none =>
      have hiw : i ∉ wr := by simpa using hmk
      have hh := hh trivial (hseen _ hk)
      simp only [hiw, if_false]
      cases hg : o.guard with
      | none => rw [hg] at hh; exact hh
      | some jb =>
        obtain ⟨jj, b⟩ := jb
        rw [hg] at hh
        exact ⟨hh.1, fun hne => ⟨fun h => h.elim, (hh.2 hne).2⟩⟩
  · refine ⟨by simp, hrefl _, rfl, rfl, fun _ _ => rfl, fun j o t ho hd hl => ?_⟩
    simp [Array.getD_eq_getD_getElem?, Array.getElem?_replicate] at hl
    split at hl <;> simp at hl
  · refine ⟨0, Nat.zero_le _, fun j i hj => ?_, h0⟩
    simp [Array.getD_eq_getD_getElem?, Array.getElem?_replicate]
    split <;> simp
  · intro j hj _
    omega
  · simp
end
end Go.Proofs.Ytjmehamkpmimkaa

namespace Go.Proofs.Ytjmehamkpmimkaa
open Go.RowKit

/-- Few texts were saved. -/
def FewS (i : Nat) (o : Option SSt) : Prop := ∀ s, o = some s → 0 ≤ s.n ∧ s.n ≤ i
/-- Where the law StoreActs stands behind i acts. -/
def Stand5 (w0 : World) (g g' N i : Nat) (sv mv : Value) (wr : World) : Prop := ∃ FA FB d o, Both5 w0 g g' FA FB sv mv d o wr ∧ Fewer N i d ∧ FewS i o

theorem Szd.of_pa {B g : Nat} {FA : Nat → Prop} {sv : Value} {d : DSt} {o : Option SSt} {w : World} (h : PA B g FA sv d o w) : Szd d := by
  obtain ⟨F, hd, _⟩ := h.dsk
  exact hd.szd
theorem fewer_area {N i : Nat} {d : DSt} (h : Fewer N i d) (hN : N ≤ 16) (hi : i ≤ 16) : jA d.secs ≤ 7 ∧ d.secs ≤ 16 ∧ d.ws.length ≤ 1600 ∧ d.left ≤ 9223372036854775807 := by
  have h1 : d.secs = N := by unfold DSt.secs; rw [h.1]; omega
  refine ⟨by rw [h1]; unfold jA; omega, by omega, by have := h.2.1; omega, h.2.2⟩
theorem sSave_grows (t : List UInt8) (s : SSt) (d : DSt) (hd : DOk d) (ha : jA d.secs ≤ 7) : Grows 100 d (sSave t s d).2.1 := by
  have h := (put_few (sealed t) d hd ha).2
  unfold sSave
  split
  · exact (Grows.refl d).mono (Nat.zero_le _)
  · split
    · exact h
    · split
      · exact h
      · exact h
theorem sSave_few {t : List UInt8} {s : SSt} {d : DSt} {i : Nat} (h : 0 ≤ s.n ∧ s.n ≤ i) : FewS (i + 1) (some (sSave t s d).1) := by
  intro s' hs
  injection hs with hs
  subst hs
  unfold sSave
  split
  · show 0 ≤ s.n ∧ s.n ≤ _; omega
  · split
    · show 0 ≤ s.n + 1 ∧ s.n + 1 ≤ _; omega
    · split
      · show 0 ≤ s.n ∧ s.n ≤ _; omega
      · show 0 ≤ s.n ∧ s.n ≤ _; omega
theorem FewS.next {i : Nat} {o : Option SSt} (h : FewS i o) : FewS (i + 1) o := fun s hs => by have := h s hs; omega
theorem made_few (i : Nat) (e : Int) (t : List UInt8) : FewS i (madeOf e t) := by
  intro s hs
  unfold madeOf at hs
  split at hs
  · injection hs with hs; subst hs; simp
  · cases hs
theorem jGet_few {d : DSt} (hz : Szd d) (h : d.secs ≤ 16) : (jGet (jRecover d).1).1.length ≤ 1000000 ∧ Szd (jRecover d).1 := by
  have hg := recover_few d hz.2.2.2 (by unfold jA; omega)
  have hz2 : Szd (jRecover d).1 := hz.to hg.2.1 hg.1
  have hs : (jRecover d).1.secs = d.secs := by unfold DSt.secs; rw [hg.2.1]
  have hl := hz2.2.2.1
  refine ⟨?_, hz2⟩
  unfold jGet
  split
  · simp
  · split
    · rename_i h1 h2
      simp only [List.length_take]
      rcases room_cases hz2.1 hz2.2.1 with ⟨h3, _⟩ | ⟨h3, _, _, h4, _⟩
      · omega
      · rw [h3] at h2
        have : jA (jRecover d).1.secs ≤ 7 := by rw [hs]; unfold jA; omega
        omega
    · simp
theorem sOpen_fst (d : DSt) : (sOpen d).1 = (jRecover d).1 := by
  unfold sOpen
  split
  · rfl
  · split
    · rfl
    · rfl

/-- The phases of a statement that calls the program, then the document. -/
def Ph5 (w0 : World) (g g' : Nat) (FA FB : Nat → Prop) (sv mv : Value) (d d1 : DSt) (o o1 : Option SSt) (C E : World → Prop) : Nat → World → Prop
  | 0, wx => C wx ∧ Both5 w0 g g' FA FB sv mv d o wx
  | 1, wx => C wx ∧ ∃ F6, PA w0.heap.size g F6 sv d1 o1 wx ∧ PB w0.heap.size g' FB mv d o wx ∧ (∀ k, F6 k → ¬ FB k) ∧ Mod Nil w0 wx
  | _, wx => C wx ∧ E wx
theorem Ph5.c {w0 : World} {g g' : Nat} {FA FB : Nat → Prop} {sv mv : Value} {d d1 : DSt} {o o1 : Option SSt} {C E : World → Prop} {wx : World} : ∀ (k : Nat), Ph5 w0 g g' FA FB sv mv d d1 o o1 C E k wx → C wx
  | 0, h => h.1
  | 1, h => h.1
  | _ + 2, h => h.1

set_option maxHeartbeats 64000000 in
set_option maxRecDepth 100000 in
theorem storeActs_walk (x : Int) (A : Option Addr) (n cap : Nat) (l : List Act3) (w : World) (hl : l.length = n) (hr : ActsAt All w A l) (hrg : ∀ a ∈ l, a.n ≤ 9223372036854775807) :
    Calls Try.prog 8 #[.int .i64 x, .slice A n cap] w fun r w' => r = .returned (.bool true) ∧ Mod Nil w w' := by
  have HR := Lib.hid (show ActsAt (fun b => b < w.heap.size) w A l by
    intro hn
    obtain ⟨b, o, e, _, hb, hf⟩ := hr hn
    refine ⟨b, o, e, hb, hb, fun i a ha => ?_⟩
    obtain ⟨h0, h1, h2, ⟨B, c, h3, h4, h5⟩, K, d, h6, h7, h8⟩ := hf i a ha
    exact ⟨h0, h1, h2, ⟨B, c, h3, h4, h5.mono fun _ h _ => h⟩, K, d, h6, h7, h8.mono fun _ h _ => h⟩)
  have HL := Lib.hid hl
  have HRG := Lib.hid hrg
  clear hr hl hrg
  by_cases hsm : acts5Small 16 l = true
  · have hn40 : n ≤ 16 := by have := acts5Small_len hsm; have := HL.out; omega
    have HSML := Lib.hid (fun k a (ha : l[k]? = some a) => acts5Small_at hsm ha)
    go_enter Try.func8, Try.ntmps8
    go_wp2_with fail
    refine (awake5_any _).mono ?_
    rintro r w1 ⟨rfl, hm1⟩
    have HM1 := Lib.hid hm1
    clear hm1
    go_wp2_with fail
    refine (small5_any (fun b => b < w.heap.size) A n cap 16 16 l _ rfl (by omega) HL.out (HR.out.keep HM1.out (fun _ _ => id))).mono ?_
    rintro r w2 ⟨rfl, rfl⟩
    rw [hsm]
    clear hsm
    go_wp2_with fail
    refine (rest_any x 16 _ (by omega) (by omega)).mono ?_
    rintro r w2 ⟨rfl, rfl⟩
    obtain ⟨q, hq⟩ : ∃ q : Nat, x % 16 = (q : Int) := Int.eq_ofNat_of_zero_le (by omega)
    have hq6 : q < 16 := by omega
    rw [hq]
    clear hq
    go_wp2_with fail
    obtain ⟨N, hN⟩ : ∃ N : Nat, (N : Int) = 1 + q := ⟨1 + q, by omega⟩
    rw [← hN]
    have hN1 : 1 ≤ N := by omega
    have hN16 : N ≤ 16 := by omega
    clear hN hq6
    refine (dskNew_ok N _ hN1 (by omega)).mono ?_
    rintro r w2 ⟨g, F, rfl, hd2, hm2⟩
    have HD2 := Lib.hid hd2
    have HM2 := Lib.hid hm2
    clear hd2 hm2
    go_wp2_with fail
    refine (rdkNew_any N _ (by omega)).mono ?_
    rintro r w3 ⟨g', F', rfl, hd3, hm3⟩
    have HST := Lib.hid (show Stand5 w1 g g' N 0 (.pointer none) (.pointer none) w3 from ⟨F, F', _, none, ⟨⟨rfl, HD2.out.keep0 hm3⟩, ⟨rfl, by
      obtain ⟨vw, h1, h2, h3, h4, h5, h6⟩ := hd3
      exact ⟨vw, h1, h2, Nat.le_trans HM2.out.size h3, own_base h4 HM2.out.size, h5, h6⟩⟩, fun k hk hk' => by have := (HD2.out.lt k hk).2; have := (hd3.lt k hk').1; omega, HM2.out.trans hm3⟩, ⟨by simp, Nat.le_refl _, by simp⟩, fun s hs => by cases hs⟩)
    clear hd3 hm3
    go_wp2_with fail
    go_loopw [9, 10, 11] (fun sv mv iv wr => ∃ (i : Nat), i ≤ n ∧ iv = .int .i64 i ∧ Stand5 w1 g g' N i sv mv wr) (fun _ _ v _ => n - (intOf v).toNat)
    case atStart => exact ⟨0, Nat.zero_le _, rfl, HST.out⟩
    case round =>
      obtain ⟨i, hi', rfl, ⟨FA, FB, s, o, hb, hfe, hfs⟩⟩ := hrel
      have HB := Lib.hid hb
      have HFE := Lib.hid hfe
      have HFS := Lib.hid hfs
      clear hb hfe hfs
      by_cases hlt : i < n
      · obtain ⟨a, ha⟩ : ∃ a, l[i]? = some a := ⟨_, List.getElem?_eq_getElem (by rw [HL.out]; exact hlt)⟩
        obtain ⟨b, ofs, rfl, _, hbl, hat⟩ := (HR.out.keep (HM1.out.trans HB.out.2.2.2) (fun _ _ => id)) (by rw [HL.out]; omega)
        obtain ⟨h0, h1, h2, ⟨B, cB, h3, hl3, hr3⟩, K, cK, h4, hl4, hr4⟩ := hat i a ha
        have HR3 := Lib.hid hr3
        have HR4 := Lib.hid hr4
        have HAN := Lib.hid (HRG.out a (List.mem_of_getElem? ha))
        have hbn := (HSML.out i a ha).1
        have HBA := Lib.hid (Blk.new wr 66 #[.int .i64 a.kind, .int .i64 a.n, .int .i64 a.m, .slice B a.b.length cB, .slice K a.keep.length cK])
        clear hat ha hr3 hr4
        go_upto_block 2 with (fail)
        obtain ⟨w5, hw5⟩ : ∃ w5, w5 = wr.alloc (.cells #[.int .i64 a.kind, .int .i64 a.n, .int .i64 a.m, .slice B a.b.length cB, .slice K a.keep.length cK] 66) := ⟨_, rfl⟩
        have HM5 := Lib.hid (show Mod Nil wr w5 from hw5 ▸ (Mod.refl Nil wr).alloc _)
        rw [← hw5] at HBA ⊢
        have HWA := Lib.hid (show ∀ cs : Array Value, w5.heap.size = wr.heap.size + 1 by intro _; rw [hw5]; simp)
        have HBK := Lib.hid HBA.out
        have hc0 := HBA.out.cell 0
        have hc1 := HBA.out.cell 1
        have hc2 := HBA.out.cell 2
        have hc3 := HBA.out.cell 3
        have hc4 := HBA.out.cell 4
        have HB5 := Lib.hid (HB.out.keep0 HM5.out)
        have HRK := Lib.hid (HR4.out.keep0 HM5.out)
        have HLT := Lib.hid (show ∀ k, (FA k ∨ FB k) → w.heap.size ≤ k ∧ k < wr.heap.size from fun k hk => by have := HM1.out.size; rcases hk with hk | hk; (have := HB.out.1.lt k hk; omega); (have := HB.out.2.1.lt k hk; omega))
        have HSF := Lib.hid (show ∀ k, k < w.heap.size → ¬ (FA k ∨ FB k) from fun k hk hF => by have := HLT.out k hF; omega)
        have HB5S := Lib.hid (show w1.heap.size ≤ w5.heap.size from HB5.out.2.2.2.size)
        have HSZD := Lib.hid (Szd.of_pa HB.out.1)
        have HBD5 := Lib.hid (HB5.out.keep0 ((Mod.refl Nil w5).drew))
        have HRD := Lib.hid (HR3.out.keep0 (HM5.out.drew))
        have kcc := fun (wx : World) (hm : Rd (fun k => k < w.heap.size) wx B (a.b.map bv)) => conv_bytes (l := a.b) (n := a.b.length) hm rfl cB
        have HKC := Lib.hid kcc
        have HS5 := Lib.hid (show w1.heap.size ≤ w5.drew.heap.size from HB5S.out)
        obtain ⟨hfa, hfs16, hfw, hfl⟩ := fewer_area HFE.out hN16 (by omega)
        have HFW := Lib.hid hfw
        have HFL := Lib.hid hfl
        have HFA := Lib.hid hfa
        have HF16 := Lib.hid hfs16
        clear hw5 HBA h0 h1 h2 h3 h4 kcc hfa hfs16 hfw hfl
        go_cut [9, 10, 13, 14] (fun sv mv xv yv wx => ∃ ev : Int, xv = .int .i64 ev ∧ yv = .int .i64 ev ∧ Stand5 w1 g g' N (i + 1) sv mv wx)
        case first =>
          by_cases k0 : a.kind = 0
          · have kb : (a.kind == 0) = true := by simp [k0]
            clear k0
            cases o with
            | none =>
              have h9 := HB.out.1.nil
              have h10 := HB.out.2.1.nil
              subst h9 h10
              have HEND := Lib.hid (show Stand5 w1 g g' N (i + 1) (.pointer none) (.pointer none) w5 from ⟨FA, FB, s, none, HB5.out, HFE.out.next, HFS.out.next⟩)
              go_wp2_with fail
              go_meet
              case rel => exact ⟨0, rfl, rfl, HEND.out⟩
            | some so =>
              obtain ⟨p, hp⟩ : ∃ p, u9 = .pointer (some ⟨p, 0, none⟩) := by obtain ⟨p, _, _, h, _⟩ := HB.out.1; exact ⟨p, h⟩
              obtain ⟨q', hq'⟩ : ∃ q, u10 = .pointer (some ⟨q, 0, none⟩) := by obtain ⟨p, _, h, _⟩ := HB.out.2.1; exact ⟨p, h⟩
              subst hp hq'
              have kc0 := HKC.out _ HRD.out
              have HNS := Lib.hid (HFS.out so rfl)
              have hns : so.n ≤ 999999 := by have := HNS.out; omega
              obtain ⟨ev, hev⟩ : ∃ ev, ev = (sSave a.b so s).2.2 := ⟨_, rfl⟩
              obtain ⟨s2, hs2⟩ : ∃ s2, s2 = (sSave a.b so s).2.1 := ⟨_, rfl⟩
              obtain ⟨o2, ho2⟩ : ∃ o2, o2 = (sSave a.b so s).1 := ⟨_, rfl⟩
              have HC1 := Lib.hid (pa_save w1.heap.size g FA (fun k => k < w.heap.size) (.pointer (some ⟨p, 0, none⟩)) so s B a.b.length cB a.b w5.drew HBD5.out.1 HS5.out rfl (by omega) HRD.out (fun k hk hF => HSF.out k hk (.inl hF)) (by have := HFW.out; omega) HFL.out hns)
              have HC2 := Lib.hid (fun w6 (hd : PB w1.heap.size g' FB (.pointer (some ⟨q', 0, none⟩)) s (some so) w6) (hb : w1.heap.size ≤ w6.heap.size) => pb_save w1.heap.size g' FB (.pointer (some ⟨q', 0, none⟩)) so s a.b w6 hd HSZD.out hb (by omega) (by have := HFW.out; omega) HFL.out ⟨HNS.out.1, hns⟩)
              have HGR := Lib.hid (HFE.out.grow (sSave_grows a.b so s HSZD.out.2.2.2 HFA.out))
              have HFN := Lib.hid (sSave_few (t := a.b) (d := s) HNS.out)
              rw [← hev, ← hs2, ← ho2] at HC1 HC2
              rw [← hs2] at HGR
              rw [← ho2] at HFN
              clear hev hs2 ho2 hns
              go_wp2_with fail
              go_region_law (first
                | (go_simp
                   go_at_call 36
                   refine HC1.out.mono ?_
                   rintro r w6 ⟨rfl, F6, hd6, hm6, hF6⟩
                   have hc3 := (HBK.out.drew.keep hm6 (fun hk => by have := HLT.out _ (.inl hk); omega)).cell 3
                   have kc6 := HKC.out _ (HRD.out.keep hm6 (fun k hk hF => HSF.out k hk (.inl hF)))
                   have HD6 := Lib.hid hd6
                   have HX6 := Lib.hid (HBD5.out.half hd6 hm6 hF6)
                   clear hd6 hm6 hF6)
                | (go_simp
                   go_at_call 39
                   refine (HC2.out _ HX6.out.1 HX6.out.2.2.size).mono ?_
                   rintro r w7 ⟨rfl, F7, hd7, hm7, hF7⟩
                   have HBT := Lib.hid (show Stand5 w1 g g' N (i + 1) _ _ w7 from ⟨_, _, _, _, both5_end HD6.out HX6.out.1 HX6.out.2.1 HX6.out.2.2 hd7 hm7 hF7, HGR.out, HFN.out⟩)
                   clear hd7 hm7 hF7))
              all_goals
                go_simp
                go_wp2_with fail
                go_meet
                case rel => exact ⟨ev, rfl, rfl, HBT.out⟩
          by_cases k1 : a.kind = 1
          · have kb0 : (a.kind == 0) = false := by simp [k0]
            have kb : (a.kind == 1) = true := by simp [k1]
            clear k0 k1
            have HC1 := Lib.hid (HB5.out.1.call (fun F hd _ => dskPower_any w1.heap.size g F s a.n _ hd))
            have HC2 := Lib.hid (fun w6 (hd : PB w1.heap.size g' FB u10 s o w6) => hd.call (fun F hd _ => rdkPower_any w1.heap.size g' F s a.n _ hd))
            go_wp2_with fail
            refine HC1.out.mono ?_
            rintro r w6 ⟨rfl, F6, hd6, hm6, hF6⟩
            have hc1 := (HBK.out.keep hm6 (fun hk => by have := HLT.out _ (.inl hk); omega)).cell 1
            have HD6 := Lib.hid hd6
            have HX6 := Lib.hid (HB5.out.half hd6 hm6 hF6)
            clear hd6 hm6 hF6
            go_wp2_with fail
            refine (HC2.out _ HX6.out.1).mono ?_
            rintro r w7 ⟨rfl, F7, hd7, hm7, hF7⟩
            have HBT := Lib.hid (show Stand5 w1 g g' N (i + 1) _ _ w7 from ⟨_, _, _, _, both5_end HD6.out HX6.out.1 HX6.out.2.1 HX6.out.2.2 hd7 hm7 hF7, ⟨HFE.out.1, HFE.out.next.2.1, by have := HAN.out; show max a.n (-1) ≤ _; omega⟩, HFS.out.next⟩)
            clear hd7 hm7 hF7
            go_wp2_with fail
            go_meet
            case rel => exact ⟨0, rfl, rfl, HBT.out⟩
          by_cases k4 : a.kind = 4
          · have kb0 : (a.kind == 0) = false := by simp [k0]
            have kb1 : (a.kind == 1) = false := by simp [k1]
            have kb2 : (a.kind == 2) = false := by simp [k4]
            have kb3 : (a.kind == 3) = false := by simp [k4]
            have kb : (a.kind == 4) = true := by simp [k4]
            clear k0 k1 k4
            obtain ⟨Fd, hdd, hFd⟩ := HB5.out.1.dsk
            obtain ⟨Fr, hdr, hFr⟩ := HB5.out.2.1.rdk
            have HGR := Lib.hid (HFE.out.grow (format_few (sealed a.b) s HSZD.out.2.2.2 HFA.out).2)
            have HC1 := Lib.hid (stoFormat_any w1.heap.size g Fd (fun k => k < w.heap.size) s B a.b.length cB a.b w5 hdd HB5S.out rfl (by omega) (HR3.out.keep0 HM5.out) (fun k hk hF => HSF.out k hk (.inl (hFd k hF))) (by have := HFW.out; omega) HFL.out)
            have HFD := Lib.hid hFd
            obtain ⟨ev, hev⟩ : ∃ ev, ev = (jFormat (sealed a.b) s).2 := ⟨_, rfl⟩
            obtain ⟨s2, hs2⟩ : ∃ s2, s2 = (jFormat (sealed a.b) s).1 := ⟨_, rfl⟩
            have HC2 := Lib.hid (fun w6 (F : Nat → Prop) (hd : RdkAt w1.heap.size w6 g' F s) (hb : w1.heap.size ≤ w6.heap.size) => rstFormat_any w1.heap.size g' F s a.b w6 hd HSZD.out hb (by omega) (by have := HFW.out; omega) HFL.out)
            rw [← hev, ← hs2] at HC1 HC2
            rw [← hs2] at HGR
            clear hev hs2 hdd hFd hdr hFr
            go_wp2_with fail
            refine HC1.out.mono ?_
            intro r w6 hmd
            obtain ⟨sv1, F6, rfl, hd6, hm6, hF6⟩ := hmd.pa HFD.out
            have hc3 := (HBK.out.keep hm6 (fun hk => by have := HLT.out _ (.inl hk); omega)).cell 3
            have kc6 := HKC.out _ ((HR3.out.keep0 HM5.out).keep hm6 (fun k hk hF => HSF.out k hk (.inl hF)))
            have HD6 := Lib.hid hd6
            have HX6 := Lib.hid (HB5.out.half hd6 hm6 hF6)
            obtain ⟨Fr, hdr, hFr⟩ := HX6.out.1.rdk
            have HDR := Lib.hid hdr
            have HFR := Lib.hid hFr
            clear hd6 hm6 hF6 hmd hdr hFr
            go_wp2_with fail
            refine (HC2.out _ Fr HDR.out HX6.out.2.2.size).mono ?_
            intro r w7 hmd
            obtain ⟨mv1, F7, rfl, hd7, hm7, hF7⟩ := hmd.pb HFR.out
            have HBT := Lib.hid (show Stand5 w1 g g' N (i + 1) sv1 mv1 w7 from ⟨_, _, _, _, both5_end HD6.out HX6.out.1 HX6.out.2.1 HX6.out.2.2 hd7 hm7 hF7, HGR.out, made_few _ _ _⟩)
            clear hd7 hm7 hF7 hmd
            go_wp2_with fail
            go_meet
            case rel => exact ⟨ev, rfl, rfl, HBT.out⟩
          by_cases k3 : a.kind = 3
          · have kb0 : (a.kind == 0) = false := by simp [k0]
            have kb1 : (a.kind == 1) = false := by simp [k1]
            have kb2 : (a.kind == 2) = false := by simp [k3]
            have kb : (a.kind == 3) = true := by simp [k3]
            clear k0 k1 k3 k4
            obtain ⟨Fd, hdd, hFd⟩ := HB5.out.1.dsk
            have hgw := recover_few s HSZD.out.2.2.2 HFA.out
            have HGR := Lib.hid (HFE.out.grow hgw.2)
            have HWX := Lib.hid (show (jRecover s).1.ws.length ≤ 1000000 by have := hgw.2.2.1; have := HFW.out; omega)
            obtain ⟨hjg, hjz⟩ := jGet_few HSZD.out HF16.out
            have HC1 := Lib.hid (stoOpen_any w1.heap.size g Fd s w5 hdd HB5S.out (by have := HFW.out; omega) HFL.out hjg)
            have HFD := Lib.hid hFd
            have HC2 := Lib.hid (fun w6 (F : Nat → Prop) (hd : RdkAt w1.heap.size w6 g' F s) (hb : w1.heap.size ≤ w6.heap.size) => rstOpen_any w1.heap.size g' F s w6 hd HSZD.out hjz hb (by have := HFW.out; omega) HWX.out HFL.out hjg)
            rw [← sOpen_fst] at HGR
            obtain ⟨ev, hev⟩ : ∃ ev, ev = (sOpen s).2.2 := ⟨_, rfl⟩
            obtain ⟨tv, htv⟩ : ∃ tv, tv = (sOpen s).2.1 := ⟨_, rfl⟩
            obtain ⟨s2, hs2⟩ : ∃ s2, s2 = (sOpen s).1 := ⟨_, rfl⟩
            rw [← hev, ← hs2, ← htv] at HC1 HC2
            rw [← hs2] at HGR
            clear hev hs2 htv hdd hFd hgw hjg hjz
            go_wp2_with fail
            refine HC1.out.mono ?_
            intro r w6 hmd
            obtain ⟨sv1, F6, rfl, hd6, hm6, hF6⟩ := hmd.pa HFD.out
            have HD6 := Lib.hid hd6
            have HX6 := Lib.hid (HB5.out.half hd6 hm6 hF6)
            obtain ⟨Fr, hdr, hFr⟩ := HX6.out.1.rdk
            have HDR := Lib.hid hdr
            have HFR := Lib.hid hFr
            clear hd6 hm6 hF6 hmd hdr hFr
            go_wp2_with fail
            refine (HC2.out _ Fr HDR.out HX6.out.2.2.size).mono ?_
            intro r w7 hmd
            obtain ⟨mv1, F7, rfl, hd7, hm7, hF7⟩ := hmd.pb HFR.out
            have HBT := Lib.hid (show Stand5 w1 g g' N (i + 1) sv1 mv1 w7 from ⟨_, _, _, _, both5_end HD6.out HX6.out.1 HX6.out.2.1 HX6.out.2.2 hd7 hm7 hF7, HGR.out, made_few _ _ _⟩)
            clear hd7 hm7 hF7 hmd
            go_wp2_with fail
            go_meet
            case rel => exact ⟨ev, rfl, rfl, HBT.out⟩
          by_cases k2 : a.kind = 2
          · have kb0 : (a.kind == 0) = false := by simp [k0]
            have kb1 : (a.kind == 1) = false := by simp [k1]
            have kb : (a.kind == 2) = true := by simp [k2]
            clear k0 k1 k2 k3 k4
            have HC1 := Lib.hid (HB5.out.1.call (fun F hd hF => dskCrash_any w1.heap.size g F s K a.keep.length cK a.keep a.n a.m (fun k => k < w.heap.size) _ hd (by have := HFW.out; omega) rfl hl4 HRK.out (fun k hk hk2 => HSF.out k hk (.inl (hF k hk2)))))
            have HC2 := Lib.hid (fun w6 (hd : PB w1.heap.size g' FB u10 s o w6) (hr : Rd (fun k => k < w.heap.size) w6 K (a.keep.map Value.bool)) => hd.call (fun F hd hF => rdkCrash_any w1.heap.size g' F s K a.keep.length cK a.keep a.n a.m (fun k => k < w.heap.size) _ hd (by have := HFW.out; omega) rfl hr (fun k hk hk2 => HSF.out k hk (.inr (hF k hk2)))))
            have hclen : (s.crash a.keep a.n a.m).S.length = s.S.length := crTo_length HSZD.out.2.2.2 _
            have hczd := HSZD.out.to (s' := s.crash a.keep a.n a.m) hclen (dok_nil rfl)
            have HSZ2 := Lib.hid hczd
            have HFE2 := Lib.hid (show Fewer N i (s.crash a.keep a.n a.m) from ⟨hclen.trans HFE.out.1, Nat.zero_le _, by show (-1 : Int) ≤ _; omega⟩)
            obtain ⟨sc, hsc⟩ : ∃ sc, sc = s.crash a.keep a.n a.m := ⟨_, rfl⟩
            have HSCW := Lib.hid (show sc.ws.length ≤ 1000 ∧ sc.left ≤ 9223372036854775807 by rw [hsc]; exact ⟨Nat.zero_le _, by show (-1 : Int) ≤ _; omega⟩)
            rw [← hsc] at HC1 HC2 HSZ2 HFE2
            clear hclen hczd hsc
            go_wp2_with fail
            refine HC1.out.mono ?_
            rintro r w6 ⟨rfl, F6, hd6, hm6, hF6⟩
            have hb6 := HBK.out.keep hm6 (fun hk => by have := HLT.out _ (.inl hk); omega)
            have hc1 := hb6.cell 1
            have hc2 := hb6.cell 2
            have hc4 := hb6.cell 4
            have HRK6 := Lib.hid (HRK.out.keep hm6 (fun k hk hF => HSF.out k hk (.inl hF)))
            have HD6 := Lib.hid hd6
            have HX6 := Lib.hid (HB5.out.half hd6 hm6 hF6)
            clear hd6 hm6 hF6 hb6
            go_wp2_with fail
            refine (HC2.out _ HX6.out.1 HRK6.out).mono ?_
            rintro r w7 ⟨rfl, F7, hd7, hm7, hF7⟩
            have HB7 := Lib.hid (both5_end HD6.out HX6.out.1 HX6.out.2.1 HX6.out.2.2 hd7 hm7 hF7)
            clear hd7 hm7 hF7
            obtain ⟨Fd, hdd, hFd⟩ := HB7.out.1.dsk
            obtain ⟨ha7, h167, _, _⟩ := fewer_area HFE2.out hN16 (by omega)
            have hgw := recover_few sc HSZ2.out.2.2.2 ha7
            have HGR := Lib.hid (HFE2.out.grow hgw.2)
            have HWX := Lib.hid (show (jRecover sc).1.ws.length ≤ 1000000 by have := hgw.2.2.1; have := HSCW.out.1; omega)
            obtain ⟨hjg, hjz⟩ := jGet_few HSZ2.out h167
            have HC1 := Lib.hid (stoOpen_any w1.heap.size g Fd sc w7 hdd HB7.out.2.2.2.size (by have := HSCW.out.1; omega) HSCW.out.2 hjg)
            have HFD := Lib.hid hFd
            have HC2 := Lib.hid (fun w6 (F : Nat → Prop) (hd : RdkAt w1.heap.size w6 g' F sc) (hb : w1.heap.size ≤ w6.heap.size) => rstOpen_any w1.heap.size g' F sc w6 hd HSZ2.out hjz hb (by have := HSCW.out.1; omega) HWX.out HSCW.out.2 hjg)
            rw [← sOpen_fst] at HGR
            obtain ⟨ev, hev⟩ : ∃ ev, ev = (sOpen sc).2.2 := ⟨_, rfl⟩
            obtain ⟨tv, htv⟩ : ∃ tv, tv = (sOpen sc).2.1 := ⟨_, rfl⟩
            obtain ⟨s2, hs2⟩ : ∃ s2, s2 = (sOpen sc).1 := ⟨_, rfl⟩
            rw [← hev, ← hs2, ← htv] at HC1 HC2
            rw [← hs2] at HGR
            clear hev hs2 htv hdd hFd hgw hjg hjz ha7 h167
            go_wp2_with fail
            refine HC1.out.mono ?_
            intro r w8 hmd
            obtain ⟨sv1, F8, rfl, hd8, hm8, hF8⟩ := hmd.pa HFD.out
            have HD8 := Lib.hid hd8
            have HX8 := Lib.hid (HB7.out.half hd8 hm8 hF8)
            obtain ⟨Fr, hdr, hFr⟩ := HX8.out.1.rdk
            have HDR := Lib.hid hdr
            have HFR := Lib.hid hFr
            clear hd8 hm8 hF8 hmd hdr hFr
            go_wp2_with fail
            refine (HC2.out _ Fr HDR.out HX8.out.2.2.size).mono ?_
            intro r w9 hmd
            obtain ⟨mv1, F9, rfl, hd9, hm9, hF9⟩ := hmd.pb HFR.out
            have HBT := Lib.hid (show Stand5 w1 g g' N (i + 1) sv1 mv1 w9 from ⟨_, _, _, _, both5_end HD8.out HX8.out.1 HX8.out.2.1 HX8.out.2.2 hd9 hm9 hF9, HGR.out, made_few _ _ _⟩)
            clear hd9 hm9 hF9 hmd
            go_wp2_with fail
            go_meet
            case rel => exact ⟨ev, rfl, rfl, HBT.out⟩
          · have kb0 : (a.kind == 0) = false := by simp [k0]
            have kb1 : (a.kind == 1) = false := by simp [k1]
            have kb2 : (a.kind == 2) = false := by simp [k2]
            have kb3 : (a.kind == 3) = false := by simp [k3]
            have kb4 : (a.kind == 4) = false := by simp [k4]
            clear k0 k1 k2 k3 k4
            have HGR := Lib.hid (HFE.out.grow ((write_grows s a.n a.b).mono (by omega)))
            have HC1 := Lib.hid (fun wx (hp : PA w1.heap.size g FA u9 s o wx) (hb : w1.heap.size ≤ wx.heap.size) (hr : Rd (fun k => k < w.heap.size) wx B (a.b.map bv)) => hp.call (fun F hd hF => dskWrite_any w1.heap.size g F s a.n B a.b.length cB _ a.b wx hd hb (by have := HFW.out; omega) HFL.out rfl hr (fun k hk hk2 => HSF.out k hk (.inl (hF k hk2)))))
            have HC2 := Lib.hid (fun w6 (hd : PB w1.heap.size g' FB u10 s o w6) (hb : w1.heap.size ≤ w6.heap.size) => hd.call (fun F hd hF => rdkWrite_any w1.heap.size g' F s a.n a.b _ hd hb (by have := HFW.out; omega) HFL.out (by omega)))
            obtain ⟨ev, hev⟩ : ∃ ev, ev = (s.write a.n a.b).2 := ⟨_, rfl⟩
            obtain ⟨s2, hs2⟩ : ∃ s2, s2 = (s.write a.n a.b).1 := ⟨_, rfl⟩
            rw [← hev, ← hs2] at HC1 HC2
            rw [← hs2] at HGR
            clear hev hs2
            have HCB := Lib.hid (show Blk w5.drew wr.heap.size 66 #[.int .i64 a.kind, .int .i64 a.n, .int .i64 a.m, .slice B a.b.length cB, .slice K a.keep.length cK] from HBK.out.drew)
            have HEZ := Lib.hid (show ∀ k, FB k → k ≠ wr.heap.size from fun k hk h => by have := HLT.out k (.inr hk); omega)
            have HAZ := Lib.hid (show ∀ k, FA k → k ≠ wr.heap.size from fun k hk h => by have := HLT.out k (.inl hk); omega)
            clear hc0 hc1 hc2 hc3 hc4
            go_wp2_with fail
            refine wp_flow3 (by kernel_rfl) (R := fun _ _ => True) [5, 12] [none, none, none, none, none, some 0, none, none, none, none, none, none, some 1, none, none]
              [(47, .is (.pointer (some ⟨g, 0, none⟩))), (48, .is (.pointer (some ⟨wr.heap.size, 1, none⟩))), (49, .is (.int .i64 a.n)), (50, .is (.pointer (some ⟨wr.heap.size, 3, none⟩))), (51, .is (.slice B a.b.length cB)), (52, .is (.int .i64 ev)), (53, .is (.pointer (some ⟨g', 0, none⟩))), (54, .is (.pointer (some ⟨wr.heap.size, 1, none⟩))), (55, .is (.int .i64 a.n)), (56, .is (.pointer (some ⟨wr.heap.size, 3, none⟩))), (57, .is (.slice B a.b.length cB)), (58, .is (.string (str a.b))), (59, .is (.int .i64 ev)), (13, .is (.int .i64 ev)), (14, .is (.int .i64 ev))]
              (Ph5 w1 g g' FA FB u9 u10 s s2 o o (fun wx => Blk wx wr.heap.size 66 #[.int .i64 a.kind, .int .i64 a.n, .int .i64 a.m, .slice B a.b.length cB, .slice K a.keep.length cK] ∧ Rd (fun k => k < w.heap.size) wx B (a.b.map bv)) (Stand5 w1 g g' N (i + 1) u9 u10))
              (by kernel_rfl) (by kernel_rfl) (by kernel_rfl) (fun _ => trivial) (fun _ _ _ _ _ => trivial) ⟨⟨HCB.out, HRD.out⟩, HBD5.out⟩ ?fops ?ffin
            case fops =>
              refine ⟨?_, ?_, ?_, ?_, ?_, ?_, ?_, ?_, ?_, ?_, ?_, ?_, ?_, ?_, ?_, trivial⟩
              all_goals intro ax wa k hR hP hk0 hk
              all_goals simp [Oper.looksAt, Op.operands, Call.operands, Seen, slot, St.is, Act.eval] at hk
              all_goals have hC := hP.c
              all_goals have hc1 : wa.cell? ⟨wr.heap.size, 1, none⟩ = some (.int .i64 a.n) := hC.1.cell 1
              all_goals have hc3 : wa.cell? ⟨wr.heap.size, 3, none⟩ = some (.slice B a.b.length cB) := hC.1.cell 3
              all_goals have kc := HKC.out _ hC.2
              all_goals have HP := Lib.hid hP
              all_goals clear hP hC
              all_goals try (clear hk0; go_wp2_with fail; exact leaves3_of trivial HP.out rfl)
              · obtain rfl : k = 0 := hk0
                obtain ⟨⟨hb0, hr0⟩, hbth⟩ := HP.out
                have HB0 := Lib.hid hb0
                have HR0 := Lib.hid hr0
                have HBT := Lib.hid hbth
                clear hb0 hr0 hbth
                go_wp2_with fail
                refine (HC1.out wa HBT.out.1 HBT.out.2.2.2.size HR0.out).mono ?_
                rintro r w6 ⟨rfl, F6, hd6, hm6, hF6⟩
                exact leaves3_of trivial ⟨⟨HB0.out.keep hm6 (fun h => HAZ.out _ h rfl), HR0.out.keep hm6 (fun k hk hF => HSF.out k hk (.inl hF))⟩, F6, hd6, HBT.out.half hd6 hm6 hF6⟩ rfl
              · obtain rfl : k = 1 := hk0
                obtain ⟨⟨hb0, hr0⟩, F6, hpa, hpb, hdj, hm⟩ := HP.out
                have HB0 := Lib.hid hb0
                have HR0 := Lib.hid hr0
                have HPA := Lib.hid hpa
                have HPB := Lib.hid hpb
                have HDJ := Lib.hid hdj
                have HMM := Lib.hid hm
                clear hb0 hr0 hpa hpb hdj hm
                go_wp2_with fail
                refine (HC2.out wa HPB.out HMM.out.size).mono ?_
                rintro r w7 ⟨rfl, F7, hd7, hm7, hF7⟩
                exact leaves3_of trivial ⟨⟨HB0.out.keep hm7 (fun h => HEZ.out _ h rfl), HR0.out.keep hm7 (fun k hk hF => HSF.out k hk (.inr hF))⟩, ⟨_, _, _, _, both5_end HPA.out HPB.out HDJ.out HMM.out hd7 hm7 hF7, HGR.out, HFS.out.next⟩⟩ rfl
            case ffin =>
              intro w9 vs hR hP hV
              have HBT := Lib.hid (show Stand5 w1 g g' N (i + 1) u9 u10 w9 from hP.2)
              simp [HoldsAll, St.is] at hV
              obtain ⟨e47, e48, e49, e50, e51, e52, e53, e54, e55, e56, e57, e58, e59, e13, e14⟩ := hV
              simp only [List.map_cons, List.map_nil, List.foldl_cons, List.foldl_nil, Act.put, e47, e48, e49, e50, e51, e52, e53, e54, e55, e56, e57, e58, e59, e13, e14, List.setIfInBounds_toArray, List.set_cons_succ, List.set_cons_zero]
              clear e47 e48 e49 e50 e51 e52 e53 e54 e55 e56 e57 e58 e59 e13 e14 hP hR
              go_wp2_with fail
              go_meet
              case rel => exact ⟨ev, rfl, rfl, HBT.out⟩
        case rest =>
          obtain ⟨ev, rfl, rfl, hcs⟩ := hcut
          have HCUT := Lib.hid hcs
          clear hcs
          obtain ⟨FX, FY, sx, ox, hb, hl, hf⟩ := HCUT.out
          have HBX := Lib.hid hb
          have HFX := Lib.hid hl
          have HSX := Lib.hid hf
          have HLX := Lib.hid (fewer_area (i := i + 1) hl hN16 (by omega))
          have HLN := Lib.hid (show sx.S.length ≤ 1000000 by rw [hl.1]; omega)
          clear hb hl hf
          go_wp2_with fail
          refine wp_flow2 (by kernel_rfl) (R := Mod Nil)
            [(136, .is (.int .i64 ev)), (137, .is (.int .i64 ev)), (138, .is (.bool false)), (139, .is (.bool false)), (140, .is u9), (141, .is u10), (142, .is (.bool true)), (143, .is (.bool false)), (144, .is (.bool false)), (145, .is (.bool false)), (146, .is (.pointer (some ⟨g, 0, none⟩))), (147, ⟨IsSl sx.S.length (sx.img.map bv), fun _ _ _ h k => h.keep0 k⟩), (148, .is (.string (str sx.img))), (149, .is (.pointer (some ⟨g', 0, none⟩))), (150, .is (.string (str sx.img))), (151, .is (.bool false)), (152, .is (.bool false))]
            (by kernel_rfl) (Mod.refl Nil) mod_trans ?fops ?ffin
          case fops =>
            refine ⟨?_, ?_, ?_, ?_, ?_, ?_, ?_, ?_, ?_, ?_, ?_, ?_, ?_, ?_, ?_, ?_, ?_, trivial⟩
            all_goals intro ax wa hR hk
            all_goals simp [Oper.looksAt, Op.operands, Call.operands, Seen, slot, St.is, Act.eval] at hk
            all_goals try refine ⟨fun _ => ?_, fun hg => (hg (by simp [Act.eval, hk])).elim⟩
            all_goals have hM4 := (Mod.refl Nil wc).drew.trans hR
            all_goals try (go_wp2_with fail; exact leaves_of (Mod.refl _ _) rfl)
            · go_wp2_with fail
              have hbz := HBX.out.keep0 hM4
              refine (same5_any w1.heap.size g g' FX FY u9 u10 sx ox wa hbz.1 hbz.2.1 HLN.out).mono ?_
              rintro r w5 ⟨rfl, hm5⟩
              exact leaves_of hm5 rfl
            · go_wp2_with fail
              obtain ⟨Fd, hdd, _⟩ := (HBX.out.keep0 hM4).1.dsk
              refine (dskImage_any _ g Fd sx wa hdd (by have := HLX.out.2.2.1; omega)).mono ?_
              rintro r w5 ⟨v5, rfl, ho5, hm5⟩
              exact leaves_of hm5 (IsSl.of_own ho5)
            · have himg : sx.img.length = sx.S.length := (Szd.of_pa HBX.out.1).2.2.2.img
              obtain ⟨⟨A', c', hg, _, _, hln, hr⟩, hgd⟩ := hk
              have kb := conv_bytes hr himg c'
              clear hr hln himg
              go_wp2_with fail
              exact leaves_of (Mod.refl _ _) rfl
            · go_wp2_with fail
              obtain ⟨Fd, hdd, _⟩ := (HBX.out.keep0 hM4).2.1.rdk
              refine (rdkImage_any _ g' Fd sx wa hdd (by have := HLX.out.2.2.1; omega)).mono ?_
              rintro r w5 ⟨rfl, hm5⟩
              exact leaves_of hm5 rfl
          case ffin =>
            intro w9 vs hR hV
            simp [HoldsAll, St.is] at hV
            obtain ⟨e136, e137, e138, e139, e140, e141, e142, e143, e144, e145, e146, ⟨A2, c2, e147, _⟩, e148, e149, e150, e151, e152⟩ := hV
            simp only [List.map_cons, List.map_nil, List.foldl_cons, List.foldl_nil, Act.put, e136, e137, e138, e139, e140, e141, e142, e143, e144, e145, e146, e147, e148, e149, e150, e151, e152, List.setIfInBounds_toArray, List.set_cons_succ, List.set_cons_zero]
            clear e136 e137 e138 e139 e140 e141 e142 e143 e144 e145 e146 e147 e148 e149 e150 e151 e152
            have HF := Lib.hid (show Stand5 w1 g g' N (i + 1) u9 u10 w9 from ⟨FX, FY, sx, ox, HBX.out.keep0 ((Mod.refl Nil wc).drew.trans hR), HFX.out, HSX.out⟩)
            clear hR
            go_wp2_with fail
            go_roundw
            case rel => exact ⟨i + 1, by omega, by go_num, HF.out⟩
            case measure => simp [intOf] <;> omega
      · go_wp2_with fail
        go_ret
        exact ⟨rfl, HM1.out.trans HB.out.2.2.2⟩
  · have hsm' : acts5Small 16 l = false := by simpa using hsm
    go_enter Try.func8, Try.ntmps8
    go_wp2_with fail
    refine (awake5_any _).mono ?_
    rintro r w1 ⟨rfl, hm1⟩
    have HM1 := Lib.hid hm1
    clear hm1
    go_wp2_with fail
    refine (small5_any (fun b => b < w.heap.size) A n cap 16 16 l _ rfl (by omega) HL.out (HR.out.keep HM1.out (fun _ _ => id))).mono ?_
    rintro r w2 ⟨rfl, rfl⟩
    rw [hsm']
    clear hsm hsm'
    go_wp2_with fail
    refine (awake5_any _).mono ?_
    rintro r w3 ⟨rfl, hm3⟩
    have HM3 := Lib.hid (HM1.out.trans hm3)
    clear hm3
    go_wp2_with fail
    go_ret
    exact ⟨rfl, HM3.out⟩
end Go.Proofs.Ytjmehamkpmimkaa
