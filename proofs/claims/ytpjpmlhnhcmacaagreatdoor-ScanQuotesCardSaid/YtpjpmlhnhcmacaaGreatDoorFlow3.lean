/- A region that draws its order and holds calls that write, one behind the other: shown operation by operation, with the phase in which the world stands. -/
import Derived.Test.YtpjpmlhnhcmacaaGreatDoorFlow
namespace Go.Proofs.YtpjpmlhnhcmacaaGreatDoor
open Go.RowKit

section
variable {P : Program}

/-- The writing operations: each is there, and told to come behind the one ahead of it. -/
def chainOk (ops : Array Oper) (wr : List Nat) : Bool :=
  (wr.all fun i => decide (i < ops.size)) && decide wr.Nodup &&
  (List.range wr.length).all fun j => match j with
    | 0 => true
    | k + 1 => match wr[k + 1]?, wr[k]? with
      | some i, some h => match ops[i]? with
        | some o => o.after.toList.any fun e => Region.binds .any e && e.on == h
        | none => false
      | _, _ => false

/-- How far the writing operations have come. -/
def Phase (wr : List Nat) (Ph : Nat → World → Prop) (listed : Array Bool) (w : World) : Prop :=
  ∃ k, k ≤ wr.length ∧ (∀ (j i : Nat), wr[j]? = some i → (listed.getD i false = true ↔ j < k)) ∧ Ph k w

theorem Phase.all {wr : List Nat} {Ph : Nat → World → Prop} {listed : Array Bool} {w : World} (h : Phase wr Ph listed w) (ha : ∀ i, i ∈ wr → listed.getD i false = true) : Ph wr.length w := by
  obtain ⟨k, hk, hl, hp⟩ := h
  rcases Nat.lt_or_ge k wr.length with hlt | hge
  · exfalso
    have hi : wr[k]? = some wr[k] := List.getElem?_eq_getElem hlt
    have := (hl k _ hi).1 (ha _ (List.mem_of_getElem? hi))
    omega
  · obtain rfl : k = wr.length := by omega
    exact hp

theorem Phase.step {ops : Array Oper} {wr : List Nat} {Ph : Nat → World → Prop} {listed : Array Bool} {w : World} {i : Nat} {o : Oper} (h : Phase wr Ph listed w) (hwr : chainOk ops wr = true)
    (hlf : listed.getD i false = false) (hil : i < listed.size) (ho : ops[i]? = some o) (he : ∀ e ∈ o.after, Region.binds .any e = true → listed.getD e.on false = true) :
    ∃ k, (∀ j, wr[j]? = some i → k = j) ∧ Ph k w ∧ ∀ w', Ph (if i ∈ wr then k + 1 else k) w' → Phase wr Ph (listed.setIfInBounds i true) w' := by
  obtain ⟨k, hk, hl, hp⟩ := h
  unfold chainOk at hwr
  simp only [Bool.and_eq_true, List.all_eq_true, decide_eq_true_eq, List.mem_range] at hwr
  obtain ⟨⟨hin, hnd⟩, hch⟩ := hwr
  have hkey : ∀ j, wr[j]? = some i → k = j := by
    intro j hj
    have h1 : ¬ j < k := fun hjk => by have := (hl j i hj).2 hjk; rw [hlf] at this; cases this
    rcases j with _ | m
    · omega
    · have hjl := (List.getElem?_eq_some_iff.1 hj).1
      have hm : wr[m]? = some wr[m] := List.getElem?_eq_getElem (by omega)
      have hc := hch (m + 1) hjl
      simp only [hj, hm, ho] at hc
      simp only [List.any_eq_true, Bool.and_eq_true, beq_iff_eq] at hc
      obtain ⟨e, hem, hb, hon⟩ := hc
      have hlm := he e (Array.mem_toList_iff.1 hem) hb
      rw [hon] at hlm
      have := (hl m _ hm).1 hlm
      omega
  refine ⟨k, hkey, hp, fun w' hw' => ?_⟩
  by_cases hi : i ∈ wr
  · rw [if_pos hi] at hw'
    obtain ⟨j, hj⟩ := List.getElem?_of_mem hi
    obtain rfl := hkey j hj
    have hjl := (List.getElem?_eq_some_iff.1 hj).1
    refine ⟨k + 1, by omega, fun m x hx => ?_, hw'⟩
    by_cases hxi : i = x
    · subst hxi
      rw [getD_set_same false hil]
      have : m = k := by
        have h1 := (List.getElem?_eq_some_iff.1 hx)
        have h2 := (List.getElem?_eq_some_iff.1 hj)
        obtain ⟨p1, q1⟩ := h1
        obtain ⟨p2, q2⟩ := h2
        exact (List.getElem_inj hnd).1 (q1.trans q2.symm)
      simp; omega
    · rw [getD_set_other false hxi, hl m x hx]
      have : m ≠ k := fun e => by subst e; rw [hx] at hj; injection hj with hj; exact hxi hj.symm
      omega
  · rw [if_neg hi] at hw'
    refine ⟨k, hk, fun m x hx => ?_, hw'⟩
    have hxi : i ≠ x := fun e => by subst e; exact hi (List.mem_of_getElem? hx)
    rw [getD_set_other false hxi]
    exact hl m x hx

/-- What is asked of one operation, in each phase in which it may come up. -/
def FlowOp3 (P : Program) (ops : Array Oper) (V : Tmp → Value → World → Prop) (R : World → World → Prop) (Q : Exit → Act → World → Prop) (D : List Tmp) (a0 : Act) (w0 : World) (wr : List Nat) (Ph : Nat → World → Prop) (i : Nat) (o : Oper) : Prop :=
  ∀ (a : Act) (w : World) (k : Nat), R w0 w → Ph k w → (∀ j, wr[j]? = some i → k = j) → KnownAll V D a0 a w (o.looksAt ops) →
    match o.guard with
    | none => o.wp P a w (fun a' w' => ∃ v, a' = a.put o.dst v ∧ R w w' ∧ Ph (if i ∈ wr then k + 1 else k) w' ∧ ∀ d, o.dst = some d → V d v w') Q
    | some (j, want) =>
      (a.eval (.tmp (((ops[j]?).bind (·.dst)).getD 0)) = .bool want → o.wp P a w (fun a' w' => ∃ v, a' = a.put o.dst v ∧ R w w' ∧ Ph (if i ∈ wr then k + 1 else k) w' ∧ ∀ d, o.dst = some d → V d v w') Q) ∧
      (a.eval (.tmp (((ops[j]?).bind (·.dst)).getD 0)) ≠ .bool want → i ∉ wr ∧ ∀ d, o.dst = some d → V d undef w)

theorem flow3_any {ops : Array Oper} {V : Tmp → Value → World → Prop} {R : World → World → Prop} {Q : Exit → Act → World → Prop} {D : List Tmp} {a0 : Act} {w0 : World} {wr : List Nat} {Ph : Nat → World → Prop}
    (hok : flowOk ops D a0.tmps.size = true) (hwr : chainOk ops wr = true) (hrefl : ∀ a, R a a) (htrans : ∀ a b c, R a b → R b c → R a c) (hst : ∀ t v w w', V t v w → R w w' → V t v w')
    (hops : ∀ (i : Nat) (o : Oper), ops[i]? = some o → FlowOp3 P ops V R Q D a0 w0 wr Ph i o)
    (hfin : ∀ w' (vs : Tmp → Value), R w0 w' → Ph wr.length w' → (∀ t, t ∈ D → V t (vs t) w') → Q .normal (D.foldl (fun a d => a.put (some d) (vs d)) a0) w') :
    ∀ (fuel : Nat) (listed : Array Bool) (a : Act) (w : World), FlowInv ops V R a0 w0 listed a w → Phase wr Ph listed w → (∀ j, j < ops.size → listed.getD j false = false → 0 < fuel) → listed.toList.count false ≤ fuel → wpAny P .any ops Q fuel listed a w := by
  simp only [flowOk, Bool.and_eq_true, beq_iff_eq, decide_eq_true_eq, List.all_eq_true] at hok
  obtain ⟨⟨⟨hdst, hlt⟩, hnd⟩, hform⟩ := hok
  have form : ∀ i o, ops[i]? = some o → (∀ e ∈ o.after, Region.binds .any e = true → e.on < i) ∧ (∀ t ∈ o.looksAt ops, t ∈ D → ∃ e ∈ o.after, Region.binds .any e = true ∧ (ops[e.on]?).bind (·.dst) = some t) ∧ (∀ j b, o.guard = some (j, b) → ((ops[j]?).bind (·.dst)).isSome = true) := by
    intro i o ho
    have hmem : (o, i) ∈ ops.toList.zipIdx := by
      rw [List.mk_mem_zipIdx_iff_getElem?, Array.getElem?_toList]
      exact ho
    have h := hform (o, i) hmem
    simp only [Bool.and_eq_true, Bool.or_eq_true, Bool.not_eq_true', decide_eq_true_eq, List.any_eq_true, beq_iff_eq] at h
    refine ⟨fun e he hb => ?_, fun t ht htD => ?_, fun j b hg => ?_⟩
    · rcases h.1.1 e (Array.mem_toList_iff.2 he) with h' | h'
      · rw [hb] at h'; cases h'
      · exact h'
    · rcases h.1.2 t ht with h' | h'
      · have : D.contains t = true := List.contains_iff_mem.2 htD
        rw [this] at h'; cases h'
      · obtain ⟨e, he, hb, hd⟩ := h'
        exact ⟨e, Array.mem_toList_iff.1 he, hb, hd⟩
    · have h2 := h.2
      rw [hg] at h2
      exact h2
  have memD : ∀ t, t ∈ D ↔ ∃ (j : Nat) (o : Oper), ops[j]? = some o ∧ o.dst = some t := by
    intro t
    rw [← hdst, List.mem_filterMap]
    constructor
    · rintro ⟨o, ho, hd⟩
      obtain ⟨j, hj⟩ := List.getElem?_of_mem ho
      exact ⟨j, o, by rw [← Array.getElem?_toList]; exact hj, hd⟩
    · rintro ⟨j, o, ho, hd⟩
      exact ⟨o, Array.mem_toList_iff.2 (Array.mem_of_getElem? ho), hd⟩
  have uniq : ∀ (i j : Nat) (o o' : Oper) (t : Tmp), ops[i]? = some o → ops[j]? = some o' → o.dst = some t → o'.dst = some t → i = j := by
    have key : ∀ (l : List Oper), (l.filterMap (·.dst)).Nodup → ∀ (i j : Nat) (o o' : Oper) (t : Tmp), l[i]? = some o → l[j]? = some o' → o.dst = some t → o'.dst = some t → i = j := by
      intro l
      induction l with
      | nil => intro _ i j o o' t h; simp at h
      | cons x l ih =>
        intro hn i j o o' t hi hj hd hd'
        have hn' : (l.filterMap (·.dst)).Nodup := by
          cases hx : x.dst with
          | none => rw [List.filterMap_cons_none hx] at hn; exact hn
          | some d => rw [List.filterMap_cons_some hx] at hn; exact (List.nodup_cons.1 hn).2
        have hno : ∀ (k : Nat) (y : Oper), x.dst = some t → l[k]? = some y → y.dst = some t → False := by
          intro k y hx hk hy
          rw [List.filterMap_cons_some hx] at hn
          exact (List.nodup_cons.1 hn).1 (List.mem_filterMap.2 ⟨y, List.mem_of_getElem? hk, hy⟩)
        match i, j, hi, hj with
        | 0, 0, _, _ => rfl
        | 0, j + 1, hi, hj =>
          simp only [List.getElem?_cons_zero, Option.some.injEq] at hi
          simp only [List.getElem?_cons_succ] at hj
          subst hi
          exact (hno j o' hd hj hd').elim
        | i + 1, 0, hi, hj =>
          simp only [List.getElem?_cons_zero, Option.some.injEq] at hj
          simp only [List.getElem?_cons_succ] at hi
          subst hj
          exact (hno i o hd' hi hd).elim
        | i + 1, j + 1, hi, hj =>
          simp only [List.getElem?_cons_succ] at hi hj
          rw [ih hn' i j o o' t hi hj hd hd']
    intro i j o o' t hi hj
    exact key ops.toList (by rw [hdst]; exact hnd) i j o o' t (by rw [Array.getElem?_toList]; exact hi) (by rw [Array.getElem?_toList]; exact hj)
  have hin : ∀ j, j ∈ wr → j < ops.size := by
    unfold chainOk at hwr
    simp only [Bool.and_eq_true, List.all_eq_true, decide_eq_true_eq] at hwr
    exact hwr.1.1
  -- where nothing may come up, all has
  have done_ : ∀ listed : Array Bool, listed.size = ops.size → Region.ready .any ops listed = [] → ∀ j, j < ops.size → listed.getD j false = true := by
    intro listed hls hr j
    induction j using Nat.strongRecOn with
    | _ j ih =>
      intro hj
      by_cases hl : listed.getD j false = true
      · exact hl
      · exfalso
        have hmem : j ∈ Region.ready .any ops listed := by
          refine mem_ready.2 ⟨?_, ops[j], Array.getElem?_eq_getElem hj, fun e he hb => ?_⟩
          · have : j < listed.size := by omega
            simp [this] at hl ⊢
            exact hl
          · have hon := (form j _ (Array.getElem?_eq_getElem hj)).1 e he hb
            exact ih e.on hon (by omega)
        rw [hr] at hmem
        cases hmem
  -- the end
  have fin_ : ∀ (listed : Array Bool) (a : Act) (w : World), FlowInv ops V R a0 w0 listed a w → Phase wr Ph listed w → (∀ j, j < ops.size → listed.getD j false = true) → Q .normal a w := by
    intro listed a w inv hph hall
    have hV : ∀ t, t ∈ D → V t (a.eval (.tmp t)) w := by
      intro t ht
      obtain ⟨j, o, ho, hd⟩ := (memD t).1 ht
      exact inv.inn j o t ho hd (hall j (Array.getElem?_eq_some_iff.1 ho).1)
    have h := hfin w (fun t => a.eval (.tmp t)) inv.world (hph.all (fun j hj => hall _ (hin j hj))) hV
    have e : D.foldl (fun b d => b.put (some d) (a.eval (.tmp d))) a0 = a := by
      have hp := fun t => putAll_eval (fun d => a.eval (.tmp d)) D a0 t hnd (fun d hd => by simpa using hlt d hd)
      refine act_ext (by rw [(hp 0).2.1, inv.size]) (by rw [(hp 0).2.2, inv.defers]) fun t => ?_
      rw [(hp t).1]
      split
      · rfl
      · rename_i ht
        refine (inv.out t fun j o ho hd => ?_).symm
        exact (ht ((memD t).2 ⟨j, o, ho, hd⟩)).elim
    rw [e] at h
    exact h
  intro fuel
  induction fuel with
  | zero =>
    intro listed a w inv hph h0 hc
    have hall : ∀ j, j < ops.size → listed.getD j false = true := by
      intro j hj
      by_cases hl : listed.getD j false = true
      · exact hl
      · exact absurd (h0 j hj (by simpa using hl)) (by omega)
    refine ⟨?_, fin_ listed a w inv hph hall⟩
    rcases hr : Region.ready .any ops listed with _ | ⟨i, r⟩
    · rfl
    · exfalso
      have hi : i ∈ Region.ready .any ops listed := by rw [hr]; simp
      obtain ⟨hl, o, ho, _⟩ := mem_ready.1 hi
      have hil : i < ops.size := (Array.getElem?_eq_some_iff.1 ho).1
      have := hall i hil
      have hil' : i < listed.size := by rw [inv.lsize]; exact hil
      simp [hil'] at hl this
      rw [hl] at this
      cases this
  | succ fuel ih =>
    intro listed a w inv hph _ hc
    refine ⟨fun hr => fin_ listed a w inv hph (done_ listed inv.lsize hr), fun i hi => ?_⟩
    obtain ⟨hl, o, ho, hedges⟩ := mem_ready.1 hi
    have hio : i < ops.size := (Array.getElem?_eq_some_iff.1 ho).1
    have hil : i < listed.size := by rw [inv.lsize]; exact hio
    have hlf : listed.getD i false = false := by simp [hil] at hl ⊢; exact hl
    obtain ⟨hback, hlook, hguard⟩ := form i o ho
    have hk : KnownAll V D a0 a w (o.looksAt ops) := knownAll_of _ fun t ht => by
      unfold Known
      split
      · rename_i htD
        obtain ⟨e, he, hb, hd⟩ := hlook t ht htD
        obtain ⟨oj, hoj, hdj⟩ := Option.bind_eq_some_iff.1 hd
        exact inv.inn e.on oj t hoj hdj (hedges e he hb)
      · rename_i htD
        exact inv.out t fun j oj hoj hdj => (htD ((memD t).2 ⟨j, oj, hoj, hdj⟩)).elim
    obtain ⟨kk, hkk, hpw, hnext⟩ := hph.step hwr hlf hil ho hedges
    have hop := hops i o ho a w kk inv.world hpw hkk hk
    have hcount : (listed.setIfInBounds i true).toList.count false ≤ fuel := by
      have e : listed.toList = listed.toList.take i ++ false :: listed.toList.drop (i + 1) := by
        have hi2 : i < listed.toList.length := by simpa using hil
        have hg : listed.toList[i] = false := by
          simp [hil] at hlf
          simpa using hlf
        rw [← hg]
        conv => lhs; rw [← List.take_append_drop i listed.toList, List.drop_eq_getElem_cons hi2]
      have e' : (listed.setIfInBounds i true).toList = listed.toList.take i ++ true :: listed.toList.drop (i + 1) := by
        rw [Array.toList_setIfInBounds, List.set_eq_take_append_cons_drop, if_pos (by simpa using hil)]
      rw [e] at hc
      rw [e']
      simp only [List.count_append, List.count_cons] at hc ⊢
      simp at hc ⊢
      omega
    have step : ∀ v w', R w w' → Ph (if i ∈ wr then kk + 1 else kk) w' → (∀ d, o.dst = some d → V d v w') → wpAny P .any ops Q fuel (listed.setIfInBounds i true) (a.put o.dst v) w' := by
      intro v w' hR hPh hv
      have hinv : FlowInv ops V R a0 w0 (listed.setIfInBounds i true) (a.put o.dst v) w' := by
        refine ⟨by simp [inv.lsize], htrans _ _ _ inv.world hR, ?_, by rw [Act.size_put, inv.size], ?_, ?_⟩
        · cases h : o.dst <;> simp [Act.put, inv.defers]
        · intro t ht
          cases hd : o.dst with
          | none =>
            refine inv.out t fun j oj hoj hdj => ?_
            have hji : i ≠ j := fun e => by
              subst e
              rw [ho] at hoj
              injection hoj with hoj
              subst hoj
              rw [hd] at hdj
              cases hdj
            have := ht j oj hoj hdj
            rwa [getD_set_other false hji] at this
          | some d =>
            have htd : d ≠ t := fun e => by
              subst e
              have := ht i o ho hd
              rw [getD_set_same false hil] at this
              cases this
            rw [Act.eval_put_ne _ htd]
            refine inv.out t fun j oj hoj hdj => ?_
            have hji : i ≠ j := fun e => by
              subst e
              rw [ho] at hoj
              injection hoj with hoj
              subst hoj
              rw [hd] at hdj
              injection hdj with hdj
              exact htd hdj
            have := ht j oj hoj hdj
            rwa [getD_set_other false hji] at this
        · intro j oj t hoj hdj hlj
          by_cases hji : i = j
          · subst hji
            rw [ho] at hoj
            injection hoj with hoj
            subst hoj
            rw [hdj, Act.eval_put_same _ (by rw [inv.size]; have := hlt t ((memD t).2 ⟨i, o, ho, hdj⟩); simpa using this)]
            exact hv t hdj
          · rw [getD_set_other false hji] at hlj
            have hvj := hst t _ _ _ (inv.inn j oj t hoj hdj hlj) hR
            cases hd : o.dst with
            | none => exact hvj
            | some d =>
              have : d ≠ t := fun e => by
                subst e
                exact hji (uniq i j o oj d ho hoj hd hdj)
              rw [Act.eval_put_ne _ this]
              exact hvj
      refine ih (listed.setIfInBounds i true) (a.put o.dst v) w' hinv (hnext w' hPh) (fun j hj hlj => ?_) hcount
      rcases Nat.eq_zero_or_pos fuel with h0 | h0
      · exfalso
        have hz : (listed.setIfInBounds i true).toList.count false = 0 := by omega
        rw [List.count_eq_zero] at hz
        have hjl : j < (listed.setIfInBounds i true).size := by rw [Array.size_setIfInBounds, inv.lsize]; exact hj
        refine hz ?_
        have hget : (listed.setIfInBounds i true)[j] = false := by
          rw [Array.getD_eq_getD_getElem?, Array.getElem?_eq_getElem hjl] at hlj
          simpa using hlj
        rw [← hget]
        exact Array.mem_toList_iff.2 (Array.getElem_mem hjl)
      · exact h0
    unfold wpOp
    simp only [ho]
    cases hg : o.guard with
    | none =>
      rw [hg] at hop
      simp only [Region.wanted, hg, if_true]
      refine .inl (Oper.wp_mono ?_ hop)
      rintro a' w' ⟨v, rfl, hR, hPh, hv⟩
      exact step v w' hR hPh hv
    | some jb =>
      obtain ⟨j, b⟩ := jb
      rw [hg] at hop
      have hsome := hguard j b hg
      obtain ⟨gd, hgd⟩ := Option.isSome_iff_exists.1 hsome
      dsimp only at hop
      rw [hgd] at hop
      simp only [Option.getD_some] at hop
      have hy : yielded ops a.tmps j = (match a.tmps[gd]? with | some (.bool c) => some c | _ => none) := by
        unfold yielded
        rw [hgd]
        rfl
      by_cases hgv : a.eval (.tmp gd) = .bool b
      · have hop := hop.1 hgv
        have hgs : gd < a.tmps.size := by
          rcases Nat.lt_or_ge gd a.tmps.size with h | h
          · exact h
          · simp [Act.eval, Array.getElem?_eq_none h, undef] at hgv
        have : a.tmps[gd]? = some (.bool b) := by
          simp [Act.eval, hgs] at hgv
          rw [Array.getElem?_eq_getElem hgs, hgv]
        have hw : Region.wanted o (yielded ops a.tmps) = true := by
          unfold Region.wanted
          rw [hg]
          show (yielded ops a.tmps j == some b) = true
          rw [hy, this]
          simp
        rw [if_pos hw]
        refine .inl (Oper.wp_mono ?_ hop)
        rintro a' w' ⟨v, rfl, hR, hPh, hv⟩
        exact step v w' hR hPh hv
      · have hop := hop.2 hgv
        have : (yielded ops a.tmps j == some b) = false := by
          rw [hy]
          rcases hx : a.tmps[gd]? with _ | x
          · rfl
          · cases x <;> try rfl
            rename_i c
            simp only [beq_eq_false_iff_ne, ne_eq, Option.some.injEq]
            intro hcb
            subst hcb
            refine hgv ?_
            simp [Act.eval, hx]
        have hw : ¬ Region.wanted o (yielded ops a.tmps) = true := by
          unfold Region.wanted
          rw [hg]
          show ¬ (yielded ops a.tmps j == some b) = true
          rw [this]
          simp
        rw [if_neg hw]
        exact step undef w (hrefl w) (by rw [if_neg hop.1]; exact hpw) hop.2


/-- What an operation leaves. -/
def Leaves3 {R : World → World → Prop} (VS : List (Tmp × St R)) (Ph : World → Prop) (a : Act) (w : World) (dst : Option Tmp) (a' : Act) (w' : World) : Prop :=
  ∃ v, a' = a.put dst v ∧ R w w' ∧ Ph w' ∧ ∀ d, dst = some d → Holds VS v w' d

theorem leaves3_of {R : World → World → Prop} {VS : List (Tmp × St R)} {Ph : World → Prop} {a : Act} {w w' : World} {d : Tmp} {v : Value} (hR : R w w') (hP : Ph w') (h : Holds VS v w' d) : Leaves3 VS Ph a w (some d) (a.put (some d) v) w' :=
  ⟨v, rfl, hR, hP, fun e he => by injection he with he; subst he; exact h⟩

/-- What is asked of operation number i: of a writing one (m: how many are ahead of it), of another. -/
def FlowOp4 (P : Program) (ops : Array Oper) {R : World → World → Prop} (VS : List (Tmp × St R)) (Q : Exit → Act → World → Prop) (a0 : Act) (w0 : World) (Ph : Nat → World → Prop) (at_ : Option Nat) (o : Oper) : Prop :=
  ∀ (a : Act) (w : World) (k : Nat), R w0 w → Ph k w → (match at_ with | some m => k = m | none => True) → Seen VS a0 a w (o.looksAt ops) →
    match o.guard with
    | none => o.wp P a w (Leaves3 VS (Ph (match at_ with | some m => m + 1 | none => k)) a w o.dst) Q
    | some (j, want) =>
      (a.eval (.tmp (((ops[j]?).bind (·.dst)).getD 0)) = .bool want → o.wp P a w (Leaves3 VS (Ph (match at_ with | some m => m + 1 | none => k)) a w o.dst) Q) ∧
      (a.eval (.tmp (((ops[j]?).bind (·.dst)).getD 0)) ≠ .bool want → at_ = none ∧ ∀ d, o.dst = some d → Holds VS undef w d)

def FlowAll4 (P : Program) (ops : Array Oper) {R : World → World → Prop} (VS : List (Tmp × St R)) (Q : Exit → Act → World → Prop) (a0 : Act) (w0 : World) (Ph : Nat → World → Prop) : List (Option Nat) → List Oper → Prop
  | m :: ms, o :: r => FlowOp4 P ops VS Q a0 w0 Ph m o ∧ FlowAll4 P ops VS Q a0 w0 Ph ms r
  | [], [] => True
  | _, _ => False

theorem flowAll4_at {ops : Array Oper} {R : World → World → Prop} {VS : List (Tmp × St R)} {Q : Exit → Act → World → Prop} {a0 : Act} {w0 : World} {Ph : Nat → World → Prop} :
    ∀ (ms : List (Option Nat)) (l : List Oper), FlowAll4 P ops VS Q a0 w0 Ph ms l → ∀ (i : Nat) (o : Oper), l[i]? = some o → ∃ m, ms[i]? = some m ∧ FlowOp4 P ops VS Q a0 w0 Ph m o
  | [], [], _, i, o, h => by simp at h
  | m :: ms, x :: r, hf, 0, o, h => by
    simp at h
    subst h
    exact ⟨m, rfl, hf.1⟩
  | m :: ms, x :: r, hf, i + 1, o, h => by
    simp at h
    obtain ⟨m', h1, h2⟩ := flowAll4_at ms r hf.2 i o h
    exact ⟨m', by simpa using h1, h2⟩
  | [], _ :: _, hf, _, _, _ => hf.elim
  | _ :: _, [], hf, _, _, _ => hf.elim

/-- The marks of a region's operations: the writing ones numbered on. -/
def marksOk (wr : List Nat) (ms : List (Option Nat)) : Bool :=
  ms.zipIdx.all fun (m, i) => match m with
    | some j => wr[j]? == some i
    | none => !wr.contains i

/-- A region that draws its order and holds writing operations that come one behind the other (wr: their numbers; ms: the mark of each operation). -/
theorem wp_flow3 {id : Nat} {ops : List Oper} {a0 : Act} {w : World} {Q : Exit → Act → World → Prop} (hm : P.follows .mixedOrders = true) {R : World → World → Prop}
    (wr : List Nat) (ms : List (Option Nat)) (VS : List (Tmp × St R)) (Ph : Nat → World → Prop) (hok : flowOk ops.toArray (VS.map (·.1)) a0.tmps.size = true) (hch : chainOk ops.toArray wr = true) (hms : marksOk wr ms = true)
    (hrefl : ∀ a, R a a) (htrans : ∀ a b c, R a b → R b c → R a c) (h0 : Ph 0 w.drew)
    (hops : FlowAll4 P ops.toArray VS Q a0 w.drew Ph ms ops)
    (hfin : ∀ w' (vs : Tmp → Value), R w.drew w' → Ph wr.length w' → HoldsAll vs w' VS → Q .normal ((VS.map (·.1)).foldl (fun a d => a.put (some d) (vs d)) a0) w') :
    (Code.region id ops.toArray true).wp P Q a0 w := by
  have hnd : (VS.map (·.1)).Nodup := by
    simp only [flowOk, Bool.and_eq_true, decide_eq_true_eq] at hok
    exact hok.1.2
  refine wp_region_any hm ?_
  refine flow3_any (R := R) (V := fun t v w => Holds VS v w t) (D := VS.map (·.1)) (a0 := a0) (w0 := w.drew) (wr := wr) (Ph := Ph) hok hch hrefl htrans ?_ ?_ (fun w' vs hR hP hV => hfin w' vs hR hP (holdsAll_of VS hnd hV)) _ _ _ _ ?_ ?_ ?_ ?_
  · intro t v w w' h hR
    unfold Holds at *
    cases hs : slot VS t with
    | none => trivial
    | some s => rw [hs] at h; exact s.st _ _ _ h hR
  · intro i o ho a wa k hR hP hkj hk
    have ho' : ops[i]? = some o := by simpa using ho
    obtain ⟨m, hmi, hop⟩ := flowAll4_at ms ops hops i o ho'
    have hseen : ∀ l, KnownAll (fun t v w => Holds VS v w t) (VS.map (·.1)) a0 a wa l → Seen VS a0 a wa l := by
      intro l
      induction l with
      | nil => intro _; trivial
      | cons t l ihl =>
        rintro ⟨k1, k2⟩
        refine ⟨?_, ihl k2⟩
        unfold Known at k1
        have hm := slot_mem VS t
        cases hs : slot VS t with
        | none =>
          rw [hs] at hm
          rw [if_neg (fun h => by have := hm.1 h; simp at this)] at k1
          exact k1
        | some s =>
          rw [hs] at hm
          rw [if_pos (hm.2 rfl)] at k1
          unfold Holds at k1
          rw [hs] at k1
          exact k1
    have hmem : (m, i) ∈ ms.zipIdx := by
      rw [List.mk_mem_zipIdx_iff_getElem?]
      exact hmi
    have hmk := List.all_eq_true.1 hms (m, i) hmem
    have hh := hop a wa k hR hP
    cases m with
    | some j =>
      simp only [beq_iff_eq] at hmk
      obtain rfl := hkj j hmk
      have hiw : i ∈ wr := List.mem_of_getElem? hmk
      have hh := hh rfl (hseen _ hk)
      simp only [hiw, if_true]
      cases hg : o.guard with
      | none => rw [hg] at hh; exact hh
      | some jb =>
        obtain ⟨jj, b⟩ := jb
        rw [hg] at hh
        exact ⟨hh.1, fun hne => by have := (hh.2 hne).1; cases this⟩
    | none =>
      have hiw : i ∉ wr := by simpa using hmk
      have hh := hh trivial (hseen _ hk)
      simp only [hiw, if_false]
      cases hg : o.guard with
      | none => rw [hg] at hh; exact hh
      | some jb =>
        obtain ⟨jj, b⟩ := jb
        rw [hg] at hh
        exact ⟨hh.1, fun hne => ⟨fun h => h.elim, (hh.2 hne).2⟩⟩
  · refine ⟨by simp, hrefl _, rfl, rfl, fun _ _ => rfl, fun j o t ho hd hl => ?_⟩
    simp [Array.getD_eq_getD_getElem?, Array.getElem?_replicate] at hl
    split at hl <;> simp at hl
  · refine ⟨0, Nat.zero_le _, fun j i hj => ?_, h0⟩
    simp [Array.getD_eq_getD_getElem?, Array.getElem?_replicate]
    split <;> simp
  · intro j hj _
    omega
  · simp
end
end Go.Proofs.YtpjpmlhnhcmacaaGreatDoor
