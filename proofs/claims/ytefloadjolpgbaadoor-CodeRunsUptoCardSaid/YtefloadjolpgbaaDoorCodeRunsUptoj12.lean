/- Parts of the proof of CodeRunsUpto, joined: Flow6 Aro. -/
import Derived.Test.YtefloadjolpgbaaDoorCodeRunsUptoj11
namespace Go.Proofs.YtefloadjolpgbaaDoor
open Go.RowKit

/-- An operation's kind: a quiet one (behind these writing ones, ahead of those), or the writing one of this number. -/
inductive OpM where
  | quiet (D E : List Nat)
  | writes (m : Nat) (D E : List Nat)
def OpM.wnum : OpM → Option Nat
  | .quiet _ _ => none
  | .writes m _ _ => some m
/-- What is over ahead of it. -/
def OpM.pre : OpM → List Nat
  | .quiet D _ => D
  | .writes _ D _ => D
/-- What is over behind it. -/
def OpM.deps : OpM → List Nat
  | .quiet D _ => D
  | .writes m D _ => m :: D
/-- What comes behind it. -/
def OpM.ahead : OpM → List Nat
  | .quiet _ E => E
  | .writes _ _ E => E
def OpM.nots : OpM → List Nat
  | .quiet _ E => E
  | .writes m _ E => m :: E

def setB (S : Nat → Bool) (m : Nat) : Nat → Bool := fun i => if i = m then true else S i
theorem setB_same (S : Nat → Bool) (m : Nat) : setB S m m = true := by simp [setB]
theorem setB_ne (S : Nat → Bool) {m i : Nat} (e : i ≠ m) : setB S m i = S i := by simp [setB, e]

theorem wnum_uniq : ∀ (l : List OpM), (l.filterMap (·.wnum)).Nodup → ∀ (i j : Nat) {m : Nat}, (l[i]?).bind (·.wnum) = some m → (l[j]?).bind (·.wnum) = some m → i = j
  | [], _, i, j, m, h, _ => by simp at h
  | x :: l, hn, i, j, m, hi, hj => by
    have hn' : (l.filterMap (·.wnum)).Nodup := by
      cases hx : x.wnum with
      | none => rw [List.filterMap_cons_none hx] at hn; exact hn
      | some d => rw [List.filterMap_cons_some hx] at hn; exact (List.nodup_cons.1 hn).2
    have hno : ∀ (k : Nat), x.wnum = some m → (l[k]?).bind (·.wnum) = some m → False := by
      intro k hx hk
      rw [List.filterMap_cons_some hx] at hn
      obtain ⟨y, hy, hw⟩ := Option.bind_eq_some_iff.1 hk
      exact (List.nodup_cons.1 hn).1 (List.mem_filterMap.2 ⟨y, List.mem_of_getElem? hy, hw⟩)
    match i, j, hi, hj with
    | 0, 0, _, _ => rfl
    | 0, j + 1, hi, hj => exact (hno j (by simpa using hi) (by simpa using hj)).elim
    | i + 1, 0, hi, hj => exact (hno i (by simpa using hj) (by simpa using hi)).elim
    | i + 1, j + 1, hi, hj => rw [wnum_uniq l hn' i j (by simpa using hi) (by simpa using hj)]

/-- The region's form. -/
def planOkM (ops : Array Oper) (ds : List (Option Tmp)) (ks : List OpM) (N n : Nat) : Bool :=
  (ops.toList.map (·.dst) == ds) && (ds.filterMap id).all (· < n) && decide (ds.filterMap id).Nodup && (ks.length == ops.size) && (ks.filterMap (·.wnum) == List.range N) &&
  (ops.toList.zip ks).zipIdx.all fun ((o, kd), i) =>
    (o.after.toList.all fun e => !Region.binds .any e || e.on < i) &&
    ((o.looksAt ops).all fun t => !ds.contains (some t) || edgeTo ops o t || ops.toList.all fun o' => (match o'.dst with | some d => !Nat.beq d t | none => true) || o'.after.toList.any fun e => Region.binds .any e && e.on == i) &&
    (match o.guard with | none => true | some (j, _) => ((ops[j]?).bind (·.dst)).isSome) &&
    (kd.pre.all fun d => o.after.toList.any fun e => Region.binds .any e && (match ks[e.on]? with | some k => k.deps.contains d | none => false)) &&
    (kd.ahead.all fun m => (ops.toList.zip ks).zipIdx.any fun ((o', k'), j) => decide (i < j) && k'.nots.contains m && o'.after.toList.any fun e => Region.binds .any e && e.on == i)

section
variable {P : Program}

/-- What is asked of one operation. -/
def ObM (P : Program) (ops : Array Oper) (ds : List (Option Tmp)) (fs : List (Hist → Value)) (L : List (Tmp × Value)) (Ph : (Nat → Bool) → Hist → World → Prop) (Q : Exit → Act → World → Prop) : OpM → (Hist → Value) → Oper → Prop
  | .quiet D E, f, o => (∀ h h' : Hist, (∀ i ∈ D, h i = h' i) → f h = f h') ∧ ∀ a w h S, (∀ m ∈ D, S m = true) → (∀ m ∈ E, S m = false) → Ph S h w → Seen5 ops o ds fs L h a (o.looksAt ops) →
    match o.guard with
    | none => o.wp P a w (fun a' w' => a' = a.put o.dst (f h) ∧ Ph S h w') Q
    | some (j, want) =>
      (a.eval (.tmp (((ops[j]?).bind (·.dst)).getD 0)) = .bool want → o.wp P a w (fun a' w' => a' = a.put o.dst (f h) ∧ Ph S h w') Q) ∧
      (a.eval (.tmp (((ops[j]?).bind (·.dst)).getD 0)) ≠ .bool want → f h = undef)
  | .writes m D E, f, o => f = (fun h => h m) ∧ ∀ a w h S, (∀ m ∈ D, S m = true) → (∀ m ∈ E, S m = false) → S m = false → Ph S h w → Seen5 ops o ds fs L h a (o.looksAt ops) →
    (match o.guard with | none => True | some (j, want) => a.eval (.tmp (((ops[j]?).bind (·.dst)).getD 0)) = .bool want) ∧
    o.wp P a w (fun a' w' => ∃ v, a' = a.put o.dst v ∧ Ph (setB S m) (upd h m v) w') Q

def ObsM (P : Program) (ops : Array Oper) (ds : List (Option Tmp)) (fs : List (Hist → Value)) (L : List (Tmp × Value)) (Ph : (Nat → Bool) → Hist → World → Prop) (Q : Exit → Act → World → Prop) : List OpM → List (Hist → Value) → List Oper → Prop
  | k :: ks, f :: fs', o :: os => ObM P ops ds fs L Ph Q k f o ∧ ObsM P ops ds fs L Ph Q ks fs' os
  | [], [], [] => True
  | _, _, _ => False

theorem obsM_at {ops : Array Oper} {ds : List (Option Tmp)} {fs : List (Hist → Value)} {L : List (Tmp × Value)} {Ph : (Nat → Bool) → Hist → World → Prop} {Q : Exit → Act → World → Prop} :
    ∀ (ks : List OpM) (fs' : List (Hist → Value)) (os : List Oper), ObsM P ops ds fs L Ph Q ks fs' os → ∀ (i : Nat) (o : Oper) (k : OpM), os[i]? = some o → ks[i]? = some k → ∃ f, fs'[i]? = some f ∧ ObM P ops ds fs L Ph Q k f o
  | k :: ks, f :: fs', o :: os, h, 0, o', k', ho, hk => by
    simp at ho hk
    subst ho hk
    exact ⟨f, rfl, h.1⟩
  | k :: ks, f :: fs', o :: os, h, i + 1, o', k', ho, hk => by
    simp at ho hk
    obtain ⟨f', h1, h2⟩ := obsM_at ks fs' os h.2 i o' k' ho hk
    exact ⟨f', by simpa using h1, h2⟩
  | [], [], [], _, i, o', k', ho, _ => by simp at ho
  | [], [], _ :: _, h, _, _, _, _, _ => h.elim
  | [], _ :: _, _, h, _, _, _, _, _ => h.elim
  | _ :: _, [], _, h, _, _, _, _, _ => h.elim
  | _ :: _, _ :: _, [], h, _, _, _, _, _ => h.elim

structure Inv6 (ops : Array Oper) (ks : List OpM) (fs : List (Hist → Value)) (N : Nat) (Ph : (Nat → Bool) → Hist → World → Prop) (a0 : Act) (listed : Array Bool) (a : Act) (w : World) (k : Nat → Bool) (h : Hist) : Prop where
  lsize : listed.size = ops.size
  defers : a.defers = a0.defers
  size : a.tmps.size = a0.tmps.size
  out : ∀ t, (∀ j o, ops[j]? = some o → o.dst = some t → listed.getD j false = false) → a.eval (.tmp t) = a0.eval (.tmp t)
  inn : ∀ j o t f, ops[j]? = some o → fs[j]? = some f → o.dst = some t → listed.getD j false = true → a.eval (.tmp t) = f h
  num : ∀ i m D E, ks[i]? = some (.writes m D E) → (listed.getD i false = true ↔ k m = true)
  down : ∀ i o, ops[i]? = some o → listed.getD i false = true → ∀ e ∈ o.after, Region.binds .any e = true → listed.getD e.on false = true
  ph : Ph k h w

theorem sl_any6 {n N : Nat} {L : List (Tmp × Value)} {a0 : Act} {ops : List Oper} {w : World} {Q : Exit → Act → World → Prop}
    (ds : List (Option Tmp)) (ks : List OpM) (Ph : (Nat → Bool) → Hist → World → Prop) (fs : List (Hist → Value)) (hs : Sl n L a0) (hm : P.follows .mixedOrders = true) (hok : planOkM ops.toArray ds ks N n = true) (hfl : fs.length = ks.length)
    (h0 : ∀ h, Ph (fun _ => false) h w.drew) (hobs : ObsM P ops.toArray ds fs L Ph Q ks fs ops)
    (hfin : ∀ w' a' h S, (∀ m, m < N → S m = true) → Ph S h w' → Sl n (laid5 h L ds fs) a' → Q .normal a' w') :
    wpAny P .any ops.toArray Q ops.toArray.size (Array.replicate ops.toArray.size false) a0 w.drew := by
  generalize hA : ops.toArray = opsA at *
  have hAl : ∀ i : Nat, opsA[i]? = ops[i]? := fun i => by rw [← hA]; simp
  have hL : opsA.toList = ops := by rw [← hA]
  clear hA
  simp only [planOkM, Bool.and_eq_true, beq_iff_eq, decide_eq_true_eq, List.all_eq_true] at hok
  obtain ⟨⟨⟨⟨⟨hds, hlt⟩, hnd⟩, hkl⟩, hwr⟩, hform⟩ := hok
  rw [hL] at hds
  have dsAt : ∀ (i : Nat) (o : Oper), opsA[i]? = some o → ds[i]? = some o.dst := by
    intro i o ho
    rw [hAl] at ho
    rw [← hds, List.getElem?_map, ho]
    rfl
  have dsOf : ∀ (i : Nat) (t : Tmp), ds[i]? = some (some t) → ∃ o, opsA[i]? = some o ∧ o.dst = some t := by
    intro i t hi
    rw [← hds, List.getElem?_map] at hi
    obtain ⟨o, ho, hd⟩ := Option.map_eq_some_iff.1 hi
    exact ⟨o, by rw [hAl]; exact ho, hd⟩
  have form : ∀ (i : Nat) (o : Oper) (kd : OpM), opsA[i]? = some o → ks[i]? = some kd → (∀ e ∈ o.after, Region.binds .any e = true → e.on < i) ∧
      (∀ t ∈ o.looksAt opsA, some t ∈ ds → edgeTo opsA o t = true ∨ ∀ (j : Nat) (o' : Oper), opsA[j]? = some o' → o'.dst = some t → ∃ e ∈ o'.after, Region.binds .any e = true ∧ e.on = i) ∧ (∀ j b, o.guard = some (j, b) → ((opsA[j]?).bind (·.dst)).isSome = true) ∧
      (∀ d ∈ kd.pre, ∃ e ∈ o.after, Region.binds .any e = true ∧ ∃ k', ks[e.on]? = some k' ∧ d ∈ k'.deps) ∧
      (∀ m ∈ kd.ahead, ∃ (j : Nat) (o' : Oper) (k' : OpM), opsA[j]? = some o' ∧ ks[j]? = some k' ∧ i < j ∧ m ∈ k'.nots ∧ ∃ e ∈ o'.after, Region.binds .any e = true ∧ e.on = i) := by
    intro i o kd ho hk
    have hz : (opsA.toList.zip ks)[i]? = some (o, kd) := by
      rw [List.getElem?_zip_eq_some]
      exact ⟨by rw [Array.getElem?_toList]; exact ho, hk⟩
    have hmem : ((o, kd), i) ∈ (opsA.toList.zip ks).zipIdx := by
      rw [List.mk_mem_zipIdx_iff_getElem?]
      exact hz
    have hf := hform _ hmem
    simp only [Bool.and_eq_true, Bool.or_eq_true, Bool.not_eq_true', decide_eq_true_eq, List.any_eq_true, beq_iff_eq, List.all_eq_true] at hf
    obtain ⟨⟨⟨⟨h1, h2⟩, h3⟩, h4⟩, h5⟩ := hf
    refine ⟨fun e he hb => ?_, fun t ht htD => ?_, fun j b hg => ?_, fun d hd => ?_, fun m hm => ?_⟩
    · rcases h1 e (Array.mem_toList_iff.2 he) with h' | h'
      · rw [hb] at h'; cases h'
      · exact h'
    · rcases h2 t ht with h' | h'
      · rcases h' with h' | h'
        · have : ds.contains (some t) = true := List.contains_iff_mem.2 htD
          rw [this] at h'; cases h'
        · exact .inl h'
      · refine .inr fun j o' ho' hd' => ?_
        have hx := h' o' (by rw [Array.mem_toList_iff]; exact Array.mem_of_getElem? ho')
        rw [hd'] at hx
        have hbt : Nat.beq t t = true := Nat.beq_refl t
        simp only [hbt, Bool.not_true, Bool.false_eq_true, false_or] at hx
        obtain ⟨e, he, hb, hon⟩ := hx
        exact ⟨e, Array.mem_toList_iff.1 he, hb, hon⟩
    · rw [hg] at h3
      exact h3
    · obtain ⟨e, he, hb, hw⟩ := h4 d hd
      refine ⟨e, Array.mem_toList_iff.1 he, hb, ?_⟩
      rcases hke : ks[e.on]? with _ | kk
      · rw [hke] at hw; cases hw
      · rw [hke] at hw
        exact ⟨kk, rfl, List.contains_iff_mem.1 hw⟩
    · obtain ⟨⟨⟨o', k'⟩, j⟩, hj, ⟨hij, hbd⟩, e, he, hb, hon⟩ := h5 m hm
      rw [List.mk_mem_zipIdx_iff_getElem?, List.getElem?_zip_eq_some] at hj
      exact ⟨j, o', k', by rw [← Array.getElem?_toList]; exact hj.1, hj.2, hij, List.contains_iff_mem.1 hbd, e, Array.mem_toList_iff.1 he, hb, hon⟩
  have kAt : ∀ (i : Nat) (o : Oper), opsA[i]? = some o → ∃ kd, ks[i]? = some kd := by
    intro i o ho
    have := (Array.getElem?_eq_some_iff.1 ho).1
    exact ⟨_, List.getElem?_eq_getElem (by omega)⟩
  have uniq : ∀ (i j : Nat) (t : Tmp), ds[i]? = some (some t) → ds[j]? = some (some t) → i = j := by
    have key : ∀ (l : List (Option Tmp)), (l.filterMap _root_.id).Nodup → ∀ (i j : Nat) (t : Tmp), l[i]? = some (some t) → l[j]? = some (some t) → i = j := by
      intro l
      induction l with
      | nil => intro _ i j t h; simp at h
      | cons x l ih =>
        intro hn i j t hi hj
        have hn' : (l.filterMap _root_.id).Nodup := by
          cases hx : x with
          | none => rw [hx, List.filterMap_cons_none (f := _root_.id) (a := none) rfl] at hn; exact hn
          | some d => rw [hx, List.filterMap_cons_some (f := _root_.id) (a := some d) (b := d) rfl] at hn; exact (List.nodup_cons.1 hn).2
        have hno : ∀ (k : Nat), x = some t → l[k]? = some (some t) → False := by
          intro k hx hk
          rw [hx, List.filterMap_cons_some (f := _root_.id) (a := some t) (b := t) rfl] at hn
          exact (List.nodup_cons.1 hn).1 (List.mem_filterMap.2 ⟨_, List.mem_of_getElem? hk, rfl⟩)
        match i, j, hi, hj with
        | 0, 0, _, _ => rfl
        | 0, j + 1, hi, hj =>
          simp only [List.getElem?_cons_zero, Option.some.injEq] at hi
          simp only [List.getElem?_cons_succ] at hj
          exact (hno j hi hj).elim
        | i + 1, 0, hi, hj =>
          simp only [List.getElem?_cons_zero, Option.some.injEq] at hj
          simp only [List.getElem?_cons_succ] at hi
          exact (hno i hj hi).elim
        | i + 1, j + 1, hi, hj =>
          simp only [List.getElem?_cons_succ] at hi hj
          rw [ih hn' i j t hi hj]
    exact key ds hnd
  -- what is listed is of a level that has been reached; what is not listed holds the number down
  have lev : ∀ {listed : Array Bool} {a : Act} {w : World} {k : Nat → Bool} {h : Hist}, Inv6 opsA ks fs N Ph a0 listed a w k h → ∀ (i : Nat) (o : Oper) (kd : OpM), opsA[i]? = some o → ks[i]? = some kd → listed.getD i false = true → ∀ d ∈ kd.deps, k d = true := by
    intro listed a w k h inv i
    induction i using Nat.strongRecOn with
    | _ i ih =>
      intro o kd ho hk hl d hd
      obtain ⟨hb1, _, _, hq, _⟩ := form i o _ ho hk
      have hpre : d ∈ kd.pre → k d = true := fun hd => by
        obtain ⟨e, he, hb, k', hk', hle⟩ := hq d hd
        have hon := hb1 e he hb
        have hle' := inv.down i o ho hl e he hb
        have : e.on < opsA.size := by have := (List.getElem?_eq_some_iff.1 hk').1; omega
        exact ih e.on hon _ _ (Array.getElem?_eq_getElem this) hk' hle' d hle
      cases kd with
      | writes m D E =>
        rcases List.mem_cons.1 hd with rfl | hd
        · exact (inv.num i _ _ _ hk).1 hl
        · exact hpre hd
      | quiet D E => exact hpre hd
  have bnd : ∀ {listed : Array Bool} {a : Act} {w : World} {k : Nat → Bool} {h : Hist}, Inv6 opsA ks fs N Ph a0 listed a w k h → ∀ (c i : Nat) (o : Oper) (kd : OpM), opsA.size ≤ c + i → opsA[i]? = some o → ks[i]? = some kd → listed.getD i false = false → ∀ m ∈ kd.nots, k m = false := by
    intro listed a w k h inv c
    induction c with
    | zero =>
      intro i o kd hc ho _ _
      have := (Array.getElem?_eq_some_iff.1 ho).1
      omega
    | succ c ih =>
      intro i o kd hc ho hk hl m hm
      obtain ⟨_, _, _, _, hq⟩ := form i o _ ho hk
      have hah : m ∈ kd.ahead → k m = false := fun hm => by
        obtain ⟨j, o', k', ho', hk', hij, hbd, e, he, hb, hon⟩ := hq m hm
        have hj : listed.getD j false = false := by
          rcases hlj : listed.getD j false with _ | _
          · rfl
          · have := inv.down j o' ho' hlj e he hb
            rw [hon, hl] at this; cases this
        exact ih j o' k' (by omega) ho' hk' hj m hbd
      cases kd with
      | writes m' D E =>
        rcases List.mem_cons.1 hm with rfl | hm
        · rcases hx : k m with _ | _
          · rfl
          · have := (inv.num i _ _ _ hk).2 hx
            rw [hl] at this; cases this
        · exact hah hm
      | quiet D E => exact hah hm
  -- where nothing may come up, all has
  have done_ : ∀ listed : Array Bool, listed.size = opsA.size → Region.ready .any opsA listed = [] → ∀ j, j < opsA.size → listed.getD j false = true := by
    intro listed hls hr j
    induction j using Nat.strongRecOn with
    | _ j ih =>
      intro hj
      by_cases hl : listed.getD j false = true
      · exact hl
      · exfalso
        have hmem : j ∈ Region.ready .any opsA listed := by
          refine mem_ready.2 ⟨?_, opsA[j], Array.getElem?_eq_getElem hj, fun e he hb => ?_⟩
          · have : j < listed.size := by omega
            simp [this] at hl ⊢
            exact hl
          · obtain ⟨kd, hkd⟩ := kAt j _ (Array.getElem?_eq_getElem hj)
            have hon := (form j _ kd (Array.getElem?_eq_getElem hj) hkd).1 e he hb
            exact ih e.on hon (by omega)
        rw [hr] at hmem
        cases hmem
  -- the end
  have fin_ : ∀ (listed : Array Bool) (a : Act) (w : World) (k : Nat → Bool) (h : Hist), Inv6 opsA ks fs N Ph a0 listed a w k h → (∀ j, j < opsA.size → listed.getD j false = true) → Q .normal a w := by
    intro listed a w k h inv hall
    have hkN : ∀ m, m < N → k m = true := by
      intro m hlt
      have hmr : m ∈ ks.filterMap (·.wnum) := by rw [hwr]; exact List.mem_range.2 hlt
      obtain ⟨kd, hkd, hw⟩ := List.mem_filterMap.1 hmr
      obtain ⟨i, hi⟩ := List.getElem?_of_mem hkd
      cases kd with
      | quiet _ _ => cases hw
      | writes m' D E =>
        simp only [OpM.wnum, Option.some.injEq] at hw
        subst hw
        have hil := (List.getElem?_eq_some_iff.1 hi).1
        exact (inv.num i _ _ _ hi).1 (hall i (by omega))
    refine hfin w a h k hkN inv.ph ⟨by rw [inv.size, hs.size], by rw [inv.defers, hs.nd], fun t v e => ?_⟩
    rw [look_laid5] at e
    by_cases htd : some t ∈ ds
    · obtain ⟨i, hi⟩ := List.getElem?_of_mem htd
      obtain ⟨o, ho, hd⟩ := dsOf i t hi
      have hil := (Array.getElem?_eq_some_iff.1 ho).1
      have hf : fs[i]? = some (fs[i]'(by omega)) := List.getElem?_eq_getElem _
      rw [valOf_in ds fs i _ hnd hi hf] at e
      injection e with e
      rw [← e]
      exact inv.inn i o t _ ho hf hd (hall i hil)
    · rw [valOf_out ds fs htd] at e
      rw [inv.out t fun j o ho hd => (htd (List.mem_iff_getElem?.2 ⟨j, by rw [dsAt j o ho, hd]⟩)).elim]
      exact hs.sees t v e
  have main : ∀ (fuel : Nat) (listed : Array Bool) (a : Act) (w : World) (k : Nat → Bool) (h : Hist), Inv6 opsA ks fs N Ph a0 listed a w k h → (∀ j, j < opsA.size → listed.getD j false = false → 0 < fuel) → listed.toList.count false ≤ fuel → wpAny P .any opsA Q fuel listed a w := by
    intro fuel
    induction fuel with
    | zero =>
      intro listed a w k h inv h0 hc
      have hall : ∀ j, j < opsA.size → listed.getD j false = true := by
        intro j hj
        by_cases hl : listed.getD j false = true
        · exact hl
        · exact absurd (h0 j hj (by simpa using hl)) (by omega)
      refine ⟨?_, fin_ listed a w k h inv hall⟩
      rcases hr : Region.ready .any opsA listed with _ | ⟨i, r⟩
      · rfl
      · exfalso
        have hi : i ∈ Region.ready .any opsA listed := by rw [hr]; simp
        obtain ⟨hl, o, ho, _⟩ := mem_ready.1 hi
        have hil : i < opsA.size := (Array.getElem?_eq_some_iff.1 ho).1
        have := hall i hil
        have hil' : i < listed.size := by rw [inv.lsize]; exact hil
        simp [hil'] at hl this
        rw [hl] at this
        cases this
    | succ fuel ih =>
      intro listed a w k h inv _ hc
      refine ⟨fun hr => fin_ listed a w k h inv (done_ listed inv.lsize hr), fun i hi => ?_⟩
      obtain ⟨hl, o, ho, hedges⟩ := mem_ready.1 hi
      have hio : i < opsA.size := (Array.getElem?_eq_some_iff.1 ho).1
      have hil : i < listed.size := by rw [inv.lsize]; exact hio
      have hlf : listed.getD i false = false := by simp [hil] at hl ⊢; exact hl
      obtain ⟨kd, hkd⟩ := kAt i o ho
      obtain ⟨hback, hlook, hguard, hpre, _⟩ := form i o kd ho hkd
      obtain ⟨f, hf, hob⟩ := obsM_at ks fs ops hobs i o kd (by rw [← hAl]; exact ho) hkd
      have hseen : Seen5 opsA o ds fs L h a (o.looksAt opsA) := by
        have key : ∀ ts : List Tmp, (∀ t ∈ ts, t ∈ o.looksAt opsA) → Seen5 opsA o ds fs L h a ts := by
          intro ts
          induction ts with
          | nil => intro _; trivial
          | cons t r ihr =>
            intro hts
            refine ⟨fun v e => ?_, ihr fun u hu => hts u (by simp [hu])⟩
            unfold seeOf at e
            by_cases hed : edgeTo opsA o t = true
            · obtain ⟨e', he', hb', hd'⟩ := edgeTo_some hed
              rw [hed] at e
              simp only at e
              obtain ⟨oj, hoj, hdj⟩ := Option.bind_eq_some_iff.1 hd'
              have hjl := (Array.getElem?_eq_some_iff.1 hoj).1
              have hfj : fs[e'.on]? = some (fs[e'.on]'(by omega)) := List.getElem?_eq_getElem _
              rw [valOf_in ds fs e'.on _ hnd (by rw [dsAt e'.on oj hoj, hdj]) hfj] at e
              injection e with e
              rw [← e]
              exact inv.inn e'.on oj t _ hoj hfj hdj (hedges e' he' hb')
            · have hed' : edgeTo opsA o t = false := by simpa using hed
              rw [hed'] at e
              simp only at e
              rw [inv.out t fun j oj hoj hdj => ?_]
              · exact hs.sees t v e
              · rcases hlook t (hts t (by simp)) (List.mem_iff_getElem?.2 ⟨j, by rw [dsAt j oj hoj, hdj]⟩) with h' | h'
                · exact absurd h' hed
                · obtain ⟨e', he', hb', hon'⟩ := h' j oj hoj hdj
                  rcases hlj : listed.getD j false with _ | _
                  · rfl
                  · have := inv.down j oj hoj hlj e' he' hb'
                    rw [hon', hlf] at this
                    cases this
        exact key _ fun t ht => ht
      have hcount : (listed.setIfInBounds i true).toList.count false ≤ fuel := by
        have e : listed.toList = listed.toList.take i ++ false :: listed.toList.drop (i + 1) := by
          have hi2 : i < listed.toList.length := by simpa using hil
          have hg : listed.toList[i] = false := by
            simp [hil] at hlf
            simpa using hlf
          rw [← hg]
          conv => lhs; rw [← List.take_append_drop i listed.toList, List.drop_eq_getElem_cons hi2]
        have e' : (listed.setIfInBounds i true).toList = listed.toList.take i ++ true :: listed.toList.drop (i + 1) := by
          rw [Array.toList_setIfInBounds, List.set_eq_take_append_cons_drop, if_pos (by simpa using hil)]
        rw [e] at hc
        rw [e']
        simp only [List.count_append, List.count_cons] at hc ⊢
        simp at hc ⊢
        omega
      -- the next state
      have step : ∀ v w' k' h', (∀ m D E, kd = .writes m D E → k' = setB k m) → ((∀ m D E, kd ≠ .writes m D E) → k' = k) → (∀ i, k i = true → h i = h' i) → f h' = v → Ph k' h' w' → wpAny P .any opsA Q fuel (listed.setIfInBounds i true) (a.put o.dst v) w' := by
        intro v w' k' h' hk1 hk2 hh hv hPh
        have hinv : Inv6 opsA ks fs N Ph a0 (listed.setIfInBounds i true) (a.put o.dst v) w' k' h' := by
          refine ⟨by simp [inv.lsize], ?_, by rw [Act.size_put, inv.size], ?_, ?_, ?_, ?_, hPh⟩
          · cases h : o.dst <;> simp [Act.put, inv.defers]
          · intro t ht
            cases hd : o.dst with
            | none =>
              refine inv.out t fun j oj hoj hdj => ?_
              have hji : i ≠ j := fun e => by
                subst e
                rw [ho] at hoj
                injection hoj with hoj
                subst hoj
                rw [hd] at hdj
                cases hdj
              have := ht j oj hoj hdj
              rwa [getD_set_other false hji] at this
            | some d =>
              have htd : d ≠ t := fun e => by
                subst e
                have := ht i o ho hd
                rw [getD_set_same false hil] at this
                cases this
              rw [Act.eval_put_ne _ htd]
              refine inv.out t fun j oj hoj hdj => ?_
              have hji : i ≠ j := fun e => by
                subst e
                rw [ho] at hoj
                injection hoj with hoj
                subst hoj
                rw [hd] at hdj
                injection hdj with hdj
                exact htd hdj
              have := ht j oj hoj hdj
              rwa [getD_set_other false hji] at this
          · intro j oj t fj hoj hfj hdj hlj
            by_cases hji : i = j
            · subst hji
              rw [ho] at hoj
              injection hoj with hoj
              subst hoj
              rw [hf] at hfj
              injection hfj with hfj
              subst hfj
              have hts : t < a.tmps.size := by
                rw [inv.size, hs.size]
                have : t ∈ ds.filterMap _root_.id := List.mem_filterMap.2 ⟨some t, List.mem_iff_getElem?.2 ⟨i, by rw [dsAt i o ho, hdj]⟩, rfl⟩
                exact hlt t this
              rw [hdj, Act.eval_put_same _ hts, hv]
            · rw [getD_set_other false hji] at hlj
              have hvj := inv.inn j oj t fj hoj hfj hdj hlj
              have hst : fj h' = fj h := by
                obtain ⟨kj, hkj⟩ := kAt j oj hoj
                obtain ⟨fj', hfj', hobj⟩ := obsM_at ks fs ops hobs j oj kj (by rw [← hAl]; exact hoj) hkj
                rw [hfj] at hfj'
                injection hfj' with hfj'
                subst hfj'
                have hlv := lev inv j oj kj hoj hkj hlj
                cases kj with
                | quiet D E => exact (hobj.1 h h' fun i hi => hh i (hlv i hi)).symm
                | writes m D E =>
                  have := hobj.1
                  rw [this]
                  exact (hh m (hlv m (List.mem_cons_self ..))).symm
              rw [hst]
              cases hd : o.dst with
              | none => exact hvj
              | some d =>
                have : d ≠ t := fun e => by
                  subst e
                  exact hji (uniq i j d (by rw [dsAt i o ho, hd]) (by rw [dsAt j oj hoj, hdj]))
                rw [Act.eval_put_ne _ this]
                exact hvj
          · intro j m D E hj
            by_cases hji : i = j
            · subst hji
              rw [hkd] at hj
              injection hj with hj
              rw [getD_set_same false hil, hk1 m D E hj]
              simp [setB]
            · rw [getD_set_other false hji, inv.num j m D E hj]
              cases hkk : kd with
              | quiet _ _ => rw [hk2 (fun m D E e => by rw [hkk] at e; cases e)]
              | writes m' D' E' =>
                rw [hk1 m' D' E' hkk]
                have hne : m ≠ m' := fun e => by
                  subst e
                  have hnd' : (ks.filterMap (·.wnum)).Nodup := by rw [hwr]; exact List.nodup_range
                  exact hji (wnum_uniq ks hnd' i j (by rw [hkd, hkk]; rfl) (by rw [hj]; rfl))
                rw [setB_ne _ hne]
          · intro j oj hoj hlj e he hb
            by_cases hji : i = j
            · subst hji
              rw [ho] at hoj
              injection hoj with hoj
              subst hoj
              have hon := hback e he hb
              rw [getD_set_other false (by omega)]
              exact hedges e he hb
            · rw [getD_set_other false hji] at hlj
              have h1 := inv.down j oj hoj hlj e he hb
              by_cases hie : i = e.on
              · rw [← hie, getD_set_same false hil]
              · rw [getD_set_other false hie]
                exact h1
        refine ih (listed.setIfInBounds i true) (a.put o.dst v) w' k' h' hinv (fun j hj hlj => ?_) hcount
        rcases Nat.eq_zero_or_pos fuel with h0 | h0
        · exfalso
          have hz : (listed.setIfInBounds i true).toList.count false = 0 := by omega
          rw [List.count_eq_zero] at hz
          have hjl : j < (listed.setIfInBounds i true).size := by rw [Array.size_setIfInBounds, inv.lsize]; exact hj
          refine hz ?_
          have hget : (listed.setIfInBounds i true)[j] = false := by
            rw [Array.getD_eq_getD_getElem?, Array.getElem?_eq_getElem hjl] at hlj
            simpa using hlj
          rw [← hget]
          exact Array.mem_toList_iff.2 (Array.getElem_mem hjl)
        · exact h0
      -- a guard
      have gd : ∀ (j : Nat) (b : Bool), o.guard = some (j, b) → ∀ g, (opsA[j]?).bind (·.dst) = some g → (Region.wanted o (yielded opsA a.tmps) = true ↔ a.eval (.tmp g) = .bool b) := by
        intro j b hg g hgd
        have hy : yielded opsA a.tmps j = (match a.tmps[g]? with | some (.bool c) => some c | _ => none) := by
          unfold yielded
          rw [hgd]
          rfl
        unfold Region.wanted
        rw [hg]
        show (yielded opsA a.tmps j == some b) = true ↔ _
        rw [hy]
        rcases Nat.lt_or_ge g a.tmps.size with hgs | hgs
        · have : a.eval (.tmp g) = a.tmps[g] := by simp [Act.eval, hgs]
          rw [this, Array.getElem?_eq_getElem hgs]
          rcases hx : a.tmps[g] <;> simp
        · simp [Act.eval, Array.getElem?_eq_none hgs, undef]
      have hPh := inv.ph
      have hbd := bnd inv opsA.size i o kd (by omega) ho hkd hlf
      have hpr : ∀ d ∈ kd.pre, k d = true := fun d hd => by
        obtain ⟨e, he, hb, k', hk', hle⟩ := hpre d hd
        have hon := hback e he hb
        have hle' := hedges e he hb
        have : e.on < opsA.size := by omega
        exact lev inv e.on _ k' (Array.getElem?_eq_getElem this) hk' hle' d hle
      cases hkk : kd with
      | quiet D E =>
        rw [hkk] at hob hbd hpr
        have hop := hob.2 a w h k hpr hbd hPh hseen
        have step' : ∀ w', Ph k h w' → wpAny P .any opsA Q fuel (listed.setIfInBounds i true) (a.put o.dst (f h)) w' := fun w' hP =>
          step (f h) w' k h (fun m D E e => by rw [hkk] at e; cases e) (fun _ => rfl) (fun _ _ => rfl) rfl hP
        unfold wpOp
        simp only [ho]
        cases hg : o.guard with
        | none =>
          rw [hg] at hop
          simp only [Region.wanted, hg, if_true]
          refine .inl (Oper.wp_mono ?_ hop)
          rintro a' w' ⟨rfl, hP⟩
          exact step' w' hP
        | some jb =>
          obtain ⟨j, b⟩ := jb
          rw [hg] at hop
          obtain ⟨g, hgd⟩ := Option.isSome_iff_exists.1 (hguard j b hg)
          dsimp only at hop
          rw [hgd] at hop
          simp only [Option.getD_some] at hop
          by_cases hgv : a.eval (.tmp g) = .bool b
          · rw [if_pos ((gd j b hg g hgd).2 hgv)]
            refine .inl (Oper.wp_mono ?_ (hop.1 hgv))
            rintro a' w' ⟨rfl, hP⟩
            exact step' w' hP
          · rw [if_neg (fun e => hgv ((gd j b hg g hgd).1 e)), ← hop.2 hgv]
            exact step' w hPh
      | writes m D E =>
        rw [hkk] at hob hbd hpr
        obtain ⟨hgok, hop⟩ := hob.2 a w h k hpr (fun n hn => hbd n (List.mem_cons_of_mem _ hn)) (hbd m (List.mem_cons_self ..)) hPh hseen
        have hwant : Region.wanted o (yielded opsA a.tmps) = true := by
          cases hg : o.guard with
          | none => simp [Region.wanted, hg]
          | some jb =>
            obtain ⟨j, b⟩ := jb
            rw [hg] at hgok
            obtain ⟨g, hgd⟩ := Option.isSome_iff_exists.1 (hguard j b hg)
            dsimp only at hgok
            rw [hgd] at hgok
            exact (gd j b hg g hgd).2 hgok
        unfold wpOp
        simp only [ho]
        rw [if_pos hwant]
        refine .inl (Oper.wp_mono ?_ hop)
        rintro a' w' ⟨v, rfl, hP⟩
        refine step v w' (setB k m) (upd h m v) (fun m' D' E' e => by rw [hkk] at e; injection e with e; rw [e]) (fun hn => (hn m D E hkk).elim) (fun i hi => (upd_ne h v (fun e => by subst e; rw [hbd i (List.mem_cons_self ..)] at hi; cases hi)).symm) ?_ hP
        rw [hob.1]
        exact upd_same h m v
  refine main _ _ _ _ (fun _ => false) (fun _ => undef) ⟨by simp, rfl, rfl, fun _ _ => rfl, fun j o t f ho hf hd hl => ?_, fun i m D E hi => ?_, fun i o ho hl => ?_, h0 _⟩ ?_ ?_
  · simp [Array.getD_eq_getD_getElem?, Array.getElem?_replicate] at hl
    split at hl <;> simp at hl
  · simp [Array.getD_eq_getD_getElem?, Array.getElem?_replicate]
    split <;> simp
  · simp [Array.getD_eq_getD_getElem?, Array.getElem?_replicate] at hl
    split at hl <;> simp at hl
  · intro j hj _
    omega
  · simp

theorem sl_flow6 {id n N : Nat} {L : List (Tmp × Value)} {a0 : Act} {ops : List Oper} {w : World} {Q : Exit → Act → World → Prop}
    (ds : List (Option Tmp)) (ks : List OpM) (Ph : (Nat → Bool) → Hist → World → Prop) (fs : List (Hist → Value)) (hs : Sl n L a0) (hm : P.follows .mixedOrders = true) (hok : planOkM ops.toArray ds ks N n = true) (hfl : fs.length = ks.length)
    (h0 : ∀ h, Ph (fun _ => false) h w.drew) (hobs : ObsM P ops.toArray ds fs L Ph Q ks fs ops)
    (hfin : ∀ w' a' h S, (∀ m, m < N → S m = true) → Ph S h w' → Sl n (laid5 h L ds fs) a' → Q .normal a' w') :
    (Code.region id ops.toArray true).wp P Q a0 w := by
  exact wp_region_any hm (sl_any6 ds ks Ph fs hs hm hok hfl h0 hobs hfin)

/-! ### one operation -/
section
variable {ops : Array Oper} {ds : List (Option Tmp)} {fs : List (Hist → Value)} {L : List (Tmp × Value)} {Ph : (Nat → Bool) → Hist → World → Prop} {Q : Exit → Act → World → Prop} {D E : List Nat} {m : Nat} {f : Hist → Value} {o : Oper}

theorem obm_quiet (hg : o.guard = none) (hop : ∀ a w h S, (∀ m ∈ D, S m = true) → (∀ m ∈ E, S m = false) → Ph S h w → Seen5 ops o ds fs L h a (o.looksAt ops) → ∀ K : Act → World → Prop, (∀ w', Ph S h w' → K (a.put o.dst (f h)) w') → o.wp P a w K Q)
    (hst : ∀ h h' : Hist, (∀ i ∈ D, h i = h' i) → f h = f h') : ObM P ops ds fs L Ph Q (.quiet D E) f o :=
  ⟨hst, fun a w h S h1 h2 h3 h4 => by
    rw [hg]
    exact hop a w h S h1 h2 h3 h4 _ fun w' hw => ⟨rfl, hw⟩⟩
theorem obm_want {j g : Nat} {b : Bool} (hg : o.guard = some (j, b)) (hj : (ops[j]?).bind (·.dst) = some g) (hv : ∀ h, seeOf ops o L h g ds fs = some (.bool b))
    (hop : ∀ a w h S, (∀ m ∈ D, S m = true) → (∀ m ∈ E, S m = false) → Ph S h w → Seen5 ops o ds fs L h a (o.looksAt ops) → ∀ K : Act → World → Prop, (∀ w', Ph S h w' → K (a.put o.dst (f h)) w') → o.wp P a w K Q)
    (hst : ∀ h h' : Hist, (∀ i ∈ D, h i = h' i) → f h = f h') : ObM P ops ds fs L Ph Q (.quiet D E) f o :=
  ⟨hst, fun a w h S h1 h2 h3 h4 => by
    rw [hg]
    simp only [hj]
    refine ⟨fun _ => hop a w h S h1 h2 h3 h4 _ fun w' hw => ⟨rfl, hw⟩, fun hne => absurd (seen_guard hg hj h4 (hv h)) hne⟩⟩
theorem obm_skip {j g : Nat} {b : Bool} (hg : o.guard = some (j, b)) (hj : (ops[j]?).bind (·.dst) = some g) (hv : ∀ h, seeOf ops o L h g ds fs = some (.bool (!b))) : ObM P ops ds fs L Ph Q (.quiet D E) (fun _ => undef) o :=
  ⟨fun _ _ _ => rfl, fun a w h S h1 h2 h3 h4 => by
    rw [hg]
    simp only [hj]
    refine ⟨fun he => ?_, fun _ => trivial⟩
    have := seen_guard hg hj h4 (hv h)
    simp only [Option.getD_some] at he
    rw [this] at he
    cases b <;> simp at he⟩
theorem obm_skip_u {j g : Nat} {b : Bool} (hg : o.guard = some (j, b)) (hj : (ops[j]?).bind (·.dst) = some g) (hv : ∀ h, seeOf ops o L h g ds fs = some undef) : ObM P ops ds fs L Ph Q (.quiet D E) (fun _ => undef) o :=
  ⟨fun _ _ _ => rfl, fun a w h S h1 h2 h3 h4 => by
    rw [hg]
    simp only [hj]
    refine ⟨fun he => ?_, fun _ => trivial⟩
    have := seen_guard hg hj h4 (hv h)
    simp only [Option.getD_some] at he
    rw [this] at he
    simp [undef] at he⟩
theorem obm_writes (hg : o.guard = none) (hop : ∀ a w h S, (∀ m ∈ D, S m = true) → (∀ m ∈ E, S m = false) → S m = false → Ph S h w → Seen5 ops o ds fs L h a (o.looksAt ops) → ∀ K : Act → World → Prop, (∀ v w', Ph (setB S m) (upd h m v) w' → K (a.put o.dst v) w') → o.wp P a w K Q) : ObM P ops ds fs L Ph Q (.writes m D E) (fun h => h m) o :=
  ⟨rfl, fun a w h S h1 h2 h3 h4 h5 => by
    rw [hg]
    exact ⟨trivial, hop a w h S h1 h2 h3 h4 h5 _ fun v w' hw => ⟨v, rfl, hw⟩⟩⟩
theorem obm_writes_want {j g : Nat} {b : Bool} (hg : o.guard = some (j, b)) (hj : (ops[j]?).bind (·.dst) = some g) (hv : ∀ h, seeOf ops o L h g ds fs = some (.bool b))
    (hop : ∀ a w h S, (∀ m ∈ D, S m = true) → (∀ m ∈ E, S m = false) → S m = false → Ph S h w → Seen5 ops o ds fs L h a (o.looksAt ops) → ∀ K : Act → World → Prop, (∀ v w', Ph (setB S m) (upd h m v) w' → K (a.put o.dst v) w') → o.wp P a w K Q) : ObM P ops ds fs L Ph Q (.writes m D E) (fun h => h m) o :=
  ⟨rfl, fun a w h S h1 h2 h3 h4 h5 => by
    rw [hg]
    simp only [hj]
    exact ⟨seen_guard hg hj h5 (hv h), hop a w h S h1 h2 h3 h4 h5 _ fun v w' hw => ⟨v, rfl, hw⟩⟩⟩
end
end
end Go.Proofs.YtefloadjolpgbaaDoor

namespace Go.Proofs.YtefloadjolpgbaaDoor
open Go.RowKit

/-- Rows of six cells show code. -/
structure RowsC (w : World) (ar : List CodeT) (rows : List (List Value)) : Prop where
  len : rows.length = ar.length
  six : ∀ r ∈ rows, r.length = 6
  code : ∀ (i : Nat) (b : CodeT) (r : List Value), ar[i]? = some b → rows[i]? = some r → CodeC w b r
theorem RowsC.keep {w w' : World} {ar : List CodeT} {rows : List (List Value)} (h : RowsC w ar rows) (hm : Mod Nil w w') : RowsC w' ar rows := ⟨h.len, h.six, fun i b r h1 h2 => (h.code i b r h1 h2).keep hm⟩
theorem RowsC.nil (w : World) : RowsC w [] [] := ⟨rfl, (fun r hr => by cases hr), (fun i b r h1 => by cases h1)⟩
theorem rows_flat : ∀ (rows : List (List Value)), (∀ r ∈ rows, r.length = 6) → rows.flatten.length = rows.length * 6
  | [], _ => rfl
  | r :: rows, h => by
    rw [List.flatten_cons, List.length_append, rows_flat rows (fun q hq => h q (List.mem_cons_of_mem _ hq)), h r (List.mem_cons_self ..), List.length_cons]
    omega
theorem RowsC.flat {w : World} {ar : List CodeT} {rows : List (List Value)} (h : RowsC w ar rows) : rows.flatten.length = ar.length * 6 := by
  rw [rows_flat rows h.six, h.len]
theorem RowsC.snoc {w : World} {ar : List CodeT} {rows : List (List Value)} (h : RowsC w ar rows) {c : CodeT} {r : List Value} (hc : CodeC w c r) (h6 : r.length = 6) : RowsC w (ar ++ [c]) (rows ++ [r]) := by
  refine ⟨by simp [h.len], fun q hq => ?_, fun i b q h1 h2 => ?_⟩
  · rcases List.mem_append.1 hq with hq | hq
    · exact h.six q hq
    · simp at hq; rw [hq]; exact h6
  · rcases Nat.lt_or_ge i ar.length with hi | hi
    · rw [List.getElem?_append_left hi] at h1
      rw [List.getElem?_append_left (by rw [h.len]; exact hi)] at h2
      exact h.code i b q h1 h2
    · rw [List.getElem?_append_right hi] at h1
      rw [List.getElem?_append_right (by rw [h.len]; exact hi), h.len] at h2
      have : i - ar.length = 0 := by have := (List.getElem?_eq_some_iff.1 h1).1; simp at this; omega
      rw [this] at h1 h2
      cases h1
      cases h2
      exact hc
theorem CodeC.one {w : World} {c : CodeT} {cs : List Value} (h : CodeC w c cs) : ∀ u ∈ cs, u.oneCell' = true := by
  cases h
  intro u hu
  simp only [List.mem_cons, List.not_mem_nil, or_false] at hu
  rcases hu with rfl | rfl | rfl | rfl | rfl | rfl <;> rfl
theorem CodeC.six {w : World} {c : CodeT} {cs : List Value} (h : CodeC w c cs) : cs.length = 6 := by
  cases h
  rfl
theorem RowsC.one {w : World} {ar : List CodeT} {rows : List (List Value)} (h : RowsC w ar rows) : ∀ u ∈ rows.flatten, u.oneCell' = true := by
  intro u hu
  obtain ⟨r, hr, hu⟩ := List.mem_flatten.1 hu
  obtain ⟨i, hi⟩ := List.getElem?_of_mem hr
  have hil := (List.getElem?_eq_some_iff.1 hi).1
  rw [h.len] at hil
  exact (h.code i _ r (List.getElem?_eq_getElem hil) hi).one u hu

/-- A slice of code, seen from outside. -/
structure AroF (w : World) (ar : List CodeT) (rows : List (List Value)) (A : Option Addr) (n c : Nat) : Prop where
  cnt : n = ar.length
  le : n ≤ c
  c63 : c ≤ maxLen
  nil : A = none → c = 0
  rws : RowsC w ar rows
  rd : Rd All w A rows.flatten
theorem AroF.keep {w w' : World} {ar : List CodeT} {rows : List (List Value)} {A : Option Addr} {n c : Nat} (h : AroF w ar rows A n c) (hm : Mod Nil w w') : AroF w' ar rows A n c :=
  ⟨h.cnt, h.le, h.c63, h.nil, h.rws.keep hm, h.rd.keep0 hm⟩
theorem AroF.empty (w : World) : AroF w [] [] none 0 0 := ⟨rfl, Nat.le_refl _, Nat.zero_le _, fun _ => rfl, RowsC.nil w, Rd.nil _ _ _⟩
theorem AroF.of_own {w : World} {ar : List CodeT} {v : Value} {base : Nat} {rows : List (List Value)} (h : w.ownsRow base 26 6 v ar.length rows.flatten) (hr : RowsC w ar rows) : ∃ A c, v = .slice A ar.length c ∧ AroF w ar rows A ar.length c := by
  rcases h.2 with ⟨rfl, h0⟩ | ⟨g, cap, cur, rfl, hb, hg, hnc, hcm, hcs, htk⟩
  · have : ar = [] := List.eq_nil_of_length_eq_zero h0
    subst this
    exact ⟨none, 0, rfl, rfl, Nat.le_refl _, Nat.zero_le _, fun _ => rfl, hr, fun hp => by rw [hr.flat] at hp; simp at hp⟩
  · exact ⟨some ⟨g, 0, none⟩, cap, rfl, rfl, hnc, hcm, (fun h => by cases h), hr, fun _ => ⟨_, rfl, trivial, (Array.getElem?_eq_some_iff.1 hg).1, h.cells (g := g) rfl⟩⟩

noncomputable def clnBody : Code := (Tryd.f34.body).getD .skip
theorem code_info : (Tryd.prog.info? 26).map (fun i => (i.zero, i.size, i.bytes)) = some (some (.agg #[.int .i64 0, .int .i64 0, .slice none 0 0, .slice none 0 0, .slice none 0 0, .string ⟨#[]⟩]), 6, 104) := by kernel_rfl

theorem own_none {w : World} {g base : Nat} {e : TypeId} {size : Nat} (h : Blk w g e #[]) (hb : base ≤ g) : w.ownsRow base e size (.slice (some ⟨g, 0, none⟩) 0 0) 0 [] :=
  ⟨by simp, .inr ⟨g, 0, #[], rfl, hb, h, Nat.le_refl _, Nat.zero_le _, by simp, by simp⟩⟩

set_option maxHeartbeats 1600000 in
set_option maxRecDepth 100000 in
theorem clone_any {ar : List CodeT} {rows : List (List Value)} {A : Option Addr} {n c : Nat} (w : World) (hA : AroF w ar rows A n c) (hn : n ≤ 100) : Calls Tryd.prog 34 #[.slice A n c] w fun e w' =>
    ∃ v, e = .returned v ∧ Mod Nil w w' ∧ w'.ownsRow w.heap.size 26 6 v n rows.flatten := by
  rcases A with _ | ad
  · obtain rfl : c = 0 := hA.nil rfl
    obtain rfl : n = 0 := by have := hA.le; omega
    have har : ar = [] := List.eq_nil_of_length_eq_zero hA.cnt.symm
    subst har
    refine (cloneNil_any w).mono ?_
    rintro e w' ⟨rfl, hm⟩
    have : rows = [] := List.eq_nil_of_length_eq_zero hA.rws.len
    subst this
    exact ⟨_, rfl, hm, World.ownsRow_nil _ _ _ _⟩
  · have hq : ∀ w : World, (binOp .eql 24 (.slice (some ad) n c) (.slice none 0 0)).run Tryd.prog w = .ok (.bool false) w := fun w => by
      have hu := Tryd.underlying24
      simp [binOp, hu]
      try rfl
    have HA := Lib.hid hA
    clear hA
    refine sl_enter (n := 8) (fn := Tryd.f34) (c := clnBody) Tryd.func34 rfl rfl (by simp) fun ac HF => ?_
    conv => arg 2; whnf
    refine wp_seq (wp_region_lit ?_)
    refine sl_const HF rfl rfl (.inr rfl) (by decide) ?_; clear HF; intro _ HF
    refine sl_nil (wp_seq (wp_seq (wp_region_lit ?_)))
    refine sl_move HF rfl rfl (.inl rfl) (by decide) rfl ?_; clear HF; intro _ HF
    refine sl_op HF rfl rfl (by decide) ?_; intro K hK; have e3 := HF.see 3 rfl; go_wp2_with fail; clear e3 HF; intro _ HF
    clear hq
    refine sl_nil (wp_cond_false (HF.at 4 rfl) (wp_skip (sl_then (wp_seq (wp_region_lit ?_)))))
    refine sl_op HF rfl rfl (by decide) ?_; intro K hK; go_wp2_with fail; clear HF; intro _ HF
    refine sl_move HF rfl rfl (.inl rfl) (by decide) rfl ?_; clear HF; intro _ HF
    have hr := HA.out.rws
    have hrd := HA.out.rd
    have hm1 := (Mod.refl Nil w).alloc (.cells #[] 26)
    have hb1 : Blk (w.alloc (.cells #[] 26)) w.heap.size 26 #[] := Blk.new _ _ _
    have hrd1 := hrd.keep0 hm1
    obtain ⟨i0, hi, hz0, hz1, hz2⟩ := info_parts code_info
    generalize w.alloc (.cells #[] 26) = w1 at hm1 hb1 hrd1 ⊢
    generalize hg : w.heap.size = g at hb1 HF ⊢
    have hl : rows.flatten.length = n * 6 := by rw [hr.flat, HA.out.cnt]
    have h1 := hr.one
    refine sl_appendn HF rfl rfl (by decide) rfl Tryd.underlying24 hi hz0 hz1 hz2 rfl (by decide) rfl (own_none hb1 (Nat.le_refl g)) rfl hl hrd1 h1 (by omega) (by unfold maxLen; omega) (by have := hb1.lt; omega) fun A' c' w' a' HF2 hap => ?_
    have hap1 := hap.own
    simp only [List.nil_append, Nat.zero_add] at hap1 HF2
    have hmm : Mod Nil w w' := hm1.trans' hap.mod (fun _ _ h => h) (fun k hk h => by
      have : g = k := by simpa [Value.ownBlock] using h
      omega)
    have HR := Lib.hid (show ∃ v, (Ending.returned (.slice A' n c')) = .returned v ∧ Mod Nil w w' ∧ w'.ownsRow g 26 6 v n rows.flatten from ⟨_, rfl, hmm, hap1⟩)
    clear HF hap hap1 hmm hm1 hb1 hrd1 hr hrd hi hz0 hz1 hz2 h1 hl
    rename_i a2
    have HF := HF2
    clear HF2
    refine sl_move HF rfl rfl (.inr rfl) (by decide) rfl ?_; clear HF; intro _ HF
    exact sl_nil (wp_ret (sl_ret1 HF rfl rfl HR.out))
end Go.Proofs.YtefloadjolpgbaaDoor
