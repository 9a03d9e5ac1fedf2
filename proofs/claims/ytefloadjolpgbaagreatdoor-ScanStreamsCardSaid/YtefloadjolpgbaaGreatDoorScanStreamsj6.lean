/- Parts of the proof of ScanStreams, joined: Flow6 Rin ScsI RnW. -/
import Derived.Test.YtefloadjolpgbaaGreatDoorScanStreamsj5
import Derived.RangeFuncNested
import Derived.RangeFuncCalls
import Derived.TacticsIn
import Derived.OrdersIn
import Derived.LoopIn
import Derived.RangeFuncKeeps
import Derived.RangeFuncSeq
import Derived.TacticsInMore
import Derived.WalkKit
import Derived.OwnWalkIn
namespace Go.Proofs.YtefloadjolpgbaaGreatDoor
open Go.RowKit

/-- An operation's kind: a quiet one (behind these writing ones, ahead of those), or the writing one of this number. -/
inductive OpM where
  | quiet (D E : List Nat)
  | writes (m : Nat) (D E : List Nat)
def OpM.wnum : OpM → Option Nat
  | .quiet _ _ => none
  | .writes m _ _ => some m
/-- What is over ahead of it. -/
def OpM.pre : OpM → List Nat
  | .quiet D _ => D
  | .writes _ D _ => D
/-- What is over behind it. -/
def OpM.deps : OpM → List Nat
  | .quiet D _ => D
  | .writes m D _ => m :: D
/-- What comes behind it. -/
def OpM.ahead : OpM → List Nat
  | .quiet _ E => E
  | .writes _ _ E => E
def OpM.nots : OpM → List Nat
  | .quiet _ E => E
  | .writes m _ E => m :: E

def setB (S : Nat → Bool) (m : Nat) : Nat → Bool := fun i => if i = m then true else S i
theorem setB_same (S : Nat → Bool) (m : Nat) : setB S m m = true := by simp [setB]
theorem setB_ne (S : Nat → Bool) {m i : Nat} (e : i ≠ m) : setB S m i = S i := by simp [setB, e]

theorem wnum_uniq : ∀ (l : List OpM), (l.filterMap (·.wnum)).Nodup → ∀ (i j : Nat) {m : Nat}, (l[i]?).bind (·.wnum) = some m → (l[j]?).bind (·.wnum) = some m → i = j
  | [], _, i, j, m, h, _ => by simp at h
  | x :: l, hn, i, j, m, hi, hj => by
    have hn' : (l.filterMap (·.wnum)).Nodup := by
      cases hx : x.wnum with
      | none => rw [List.filterMap_cons_none hx] at hn; exact hn
      | some d => rw [List.filterMap_cons_some hx] at hn; exact (List.nodup_cons.1 hn).2
    have hno : ∀ (k : Nat), x.wnum = some m → (l[k]?).bind (·.wnum) = some m → False := by
      intro k hx hk
      rw [List.filterMap_cons_some hx] at hn
      obtain ⟨y, hy, hw⟩ := Option.bind_eq_some_iff.1 hk
      exact (List.nodup_cons.1 hn).1 (List.mem_filterMap.2 ⟨y, List.mem_of_getElem? hy, hw⟩)
    match i, j, hi, hj with
    | 0, 0, _, _ => rfl
    | 0, j + 1, hi, hj => exact (hno j (by simpa using hi) (by simpa using hj)).elim
    | i + 1, 0, hi, hj => exact (hno i (by simpa using hj) (by simpa using hi)).elim
    | i + 1, j + 1, hi, hj => rw [wnum_uniq l hn' i j (by simpa using hi) (by simpa using hj)]

/-- The region's form. -/
def planOkM (ops : Array Oper) (ds : List (Option Tmp)) (ks : List OpM) (N n : Nat) : Bool :=
  (ops.toList.map (·.dst) == ds) && (ds.filterMap id).all (· < n) && decide (ds.filterMap id).Nodup && (ks.length == ops.size) && (ks.filterMap (·.wnum) == List.range N) &&
  (ops.toList.zip ks).zipIdx.all fun ((o, kd), i) =>
    (o.after.toList.all fun e => !Region.binds .any e || e.on < i) &&
    ((o.looksAt ops).all fun t => !ds.contains (some t) || edgeTo ops o t || ops.toList.all fun o' => (match o'.dst with | some d => !Nat.beq d t | none => true) || o'.after.toList.any fun e => Region.binds .any e && e.on == i) &&
    (match o.guard with | none => true | some (j, _) => ((ops[j]?).bind (·.dst)).isSome) &&
    (kd.pre.all fun d => o.after.toList.any fun e => Region.binds .any e && (match ks[e.on]? with | some k => k.deps.contains d | none => false)) &&
    (kd.ahead.all fun m => (ops.toList.zip ks).zipIdx.any fun ((o', k'), j) => decide (i < j) && k'.nots.contains m && o'.after.toList.any fun e => Region.binds .any e && e.on == i)

section
variable {P : Program}

/-- What is asked of one operation. -/
def ObM (P : Program) (ops : Array Oper) (ds : List (Option Tmp)) (fs : List (Hist → Value)) (L : List (Tmp × Value)) (Ph : (Nat → Bool) → Hist → World → Prop) (Q : Exit → Act → World → Prop) : OpM → (Hist → Value) → Oper → Prop
  | .quiet D E, f, o => (∀ h h' : Hist, (∀ i ∈ D, h i = h' i) → f h = f h') ∧ ∀ a w h S, (∀ m ∈ D, S m = true) → (∀ m ∈ E, S m = false) → Ph S h w → Seen5 ops o ds fs L h a (o.looksAt ops) →
    match o.guard with
    | none => o.wp P a w (fun a' w' => a' = a.put o.dst (f h) ∧ Ph S h w') Q
    | some (j, want) =>
      (a.eval (.tmp (((ops[j]?).bind (·.dst)).getD 0)) = .bool want → o.wp P a w (fun a' w' => a' = a.put o.dst (f h) ∧ Ph S h w') Q) ∧
      (a.eval (.tmp (((ops[j]?).bind (·.dst)).getD 0)) ≠ .bool want → f h = undef)
  | .writes m D E, f, o => f = (fun h => h m) ∧ ∀ a w h S, (∀ m ∈ D, S m = true) → (∀ m ∈ E, S m = false) → S m = false → Ph S h w → Seen5 ops o ds fs L h a (o.looksAt ops) →
    (match o.guard with | none => True | some (j, want) => a.eval (.tmp (((ops[j]?).bind (·.dst)).getD 0)) = .bool want) ∧
    o.wp P a w (fun a' w' => ∃ v, a' = a.put o.dst v ∧ Ph (setB S m) (upd h m v) w') Q

def ObsM (P : Program) (ops : Array Oper) (ds : List (Option Tmp)) (fs : List (Hist → Value)) (L : List (Tmp × Value)) (Ph : (Nat → Bool) → Hist → World → Prop) (Q : Exit → Act → World → Prop) : List OpM → List (Hist → Value) → List Oper → Prop
  | k :: ks, f :: fs', o :: os => ObM P ops ds fs L Ph Q k f o ∧ ObsM P ops ds fs L Ph Q ks fs' os
  | [], [], [] => True
  | _, _, _ => False

theorem obsM_at {ops : Array Oper} {ds : List (Option Tmp)} {fs : List (Hist → Value)} {L : List (Tmp × Value)} {Ph : (Nat → Bool) → Hist → World → Prop} {Q : Exit → Act → World → Prop} :
    ∀ (ks : List OpM) (fs' : List (Hist → Value)) (os : List Oper), ObsM P ops ds fs L Ph Q ks fs' os → ∀ (i : Nat) (o : Oper) (k : OpM), os[i]? = some o → ks[i]? = some k → ∃ f, fs'[i]? = some f ∧ ObM P ops ds fs L Ph Q k f o
  | k :: ks, f :: fs', o :: os, h, 0, o', k', ho, hk => by
    simp at ho hk
    subst ho hk
    exact ⟨f, rfl, h.1⟩
  | k :: ks, f :: fs', o :: os, h, i + 1, o', k', ho, hk => by
    simp at ho hk
    obtain ⟨f', h1, h2⟩ := obsM_at ks fs' os h.2 i o' k' ho hk
    exact ⟨f', by simpa using h1, h2⟩
  | [], [], [], _, i, o', k', ho, _ => by simp at ho
  | [], [], _ :: _, h, _, _, _, _, _ => h.elim
  | [], _ :: _, _, h, _, _, _, _, _ => h.elim
  | _ :: _, [], _, h, _, _, _, _, _ => h.elim
  | _ :: _, _ :: _, [], h, _, _, _, _, _ => h.elim

structure Inv6 (ops : Array Oper) (ks : List OpM) (fs : List (Hist → Value)) (N : Nat) (Ph : (Nat → Bool) → Hist → World → Prop) (a0 : Act) (listed : Array Bool) (a : Act) (w : World) (k : Nat → Bool) (h : Hist) : Prop where
  lsize : listed.size = ops.size
  defers : a.defers = a0.defers
  size : a.tmps.size = a0.tmps.size
  out : ∀ t, (∀ j o, ops[j]? = some o → o.dst = some t → listed.getD j false = false) → a.eval (.tmp t) = a0.eval (.tmp t)
  inn : ∀ j o t f, ops[j]? = some o → fs[j]? = some f → o.dst = some t → listed.getD j false = true → a.eval (.tmp t) = f h
  num : ∀ i m D E, ks[i]? = some (.writes m D E) → (listed.getD i false = true ↔ k m = true)
  down : ∀ i o, ops[i]? = some o → listed.getD i false = true → ∀ e ∈ o.after, Region.binds .any e = true → listed.getD e.on false = true
  ph : Ph k h w

theorem sl_any6 {n N : Nat} {L : List (Tmp × Value)} {a0 : Act} {ops : List Oper} {w : World} {Q : Exit → Act → World → Prop}
    (ds : List (Option Tmp)) (ks : List OpM) (Ph : (Nat → Bool) → Hist → World → Prop) (fs : List (Hist → Value)) (hs : Sl n L a0) (hm : P.follows .mixedOrders = true) (hok : planOkM ops.toArray ds ks N n = true) (hfl : fs.length = ks.length)
    (h0 : ∀ h, Ph (fun _ => false) h w.drew) (hobs : ObsM P ops.toArray ds fs L Ph Q ks fs ops)
    (hfin : ∀ w' a' h S, (∀ m, m < N → S m = true) → Ph S h w' → Sl n (laid5 h L ds fs) a' → Q .normal a' w') :
    wpAny P .any ops.toArray Q ops.toArray.size (Array.replicate ops.toArray.size false) a0 w.drew := by
  generalize hA : ops.toArray = opsA at *
  have hAl : ∀ i : Nat, opsA[i]? = ops[i]? := fun i => by rw [← hA]; simp
  have hL : opsA.toList = ops := by rw [← hA]
  clear hA
  simp only [planOkM, Bool.and_eq_true, beq_iff_eq, decide_eq_true_eq, List.all_eq_true] at hok
  obtain ⟨⟨⟨⟨⟨hds, hlt⟩, hnd⟩, hkl⟩, hwr⟩, hform⟩ := hok
  rw [hL] at hds
  have dsAt : ∀ (i : Nat) (o : Oper), opsA[i]? = some o → ds[i]? = some o.dst := by
    intro i o ho
    rw [hAl] at ho
    rw [← hds, List.getElem?_map, ho]
    rfl
  have dsOf : ∀ (i : Nat) (t : Tmp), ds[i]? = some (some t) → ∃ o, opsA[i]? = some o ∧ o.dst = some t := by
    intro i t hi
    rw [← hds, List.getElem?_map] at hi
    obtain ⟨o, ho, hd⟩ := Option.map_eq_some_iff.1 hi
    exact ⟨o, by rw [hAl]; exact ho, hd⟩
  have form : ∀ (i : Nat) (o : Oper) (kd : OpM), opsA[i]? = some o → ks[i]? = some kd → (∀ e ∈ o.after, Region.binds .any e = true → e.on < i) ∧
      (∀ t ∈ o.looksAt opsA, some t ∈ ds → edgeTo opsA o t = true ∨ ∀ (j : Nat) (o' : Oper), opsA[j]? = some o' → o'.dst = some t → ∃ e ∈ o'.after, Region.binds .any e = true ∧ e.on = i) ∧ (∀ j b, o.guard = some (j, b) → ((opsA[j]?).bind (·.dst)).isSome = true) ∧
      (∀ d ∈ kd.pre, ∃ e ∈ o.after, Region.binds .any e = true ∧ ∃ k', ks[e.on]? = some k' ∧ d ∈ k'.deps) ∧
      (∀ m ∈ kd.ahead, ∃ (j : Nat) (o' : Oper) (k' : OpM), opsA[j]? = some o' ∧ ks[j]? = some k' ∧ i < j ∧ m ∈ k'.nots ∧ ∃ e ∈ o'.after, Region.binds .any e = true ∧ e.on = i) := by
    intro i o kd ho hk
    have hz : (opsA.toList.zip ks)[i]? = some (o, kd) := by
      rw [List.getElem?_zip_eq_some]
      exact ⟨by rw [Array.getElem?_toList]; exact ho, hk⟩
    have hmem : ((o, kd), i) ∈ (opsA.toList.zip ks).zipIdx := by
      rw [List.mk_mem_zipIdx_iff_getElem?]
      exact hz
    have hf := hform _ hmem
    simp only [Bool.and_eq_true, Bool.or_eq_true, Bool.not_eq_true', decide_eq_true_eq, List.any_eq_true, beq_iff_eq, List.all_eq_true] at hf
    obtain ⟨⟨⟨⟨h1, h2⟩, h3⟩, h4⟩, h5⟩ := hf
    refine ⟨fun e he hb => ?_, fun t ht htD => ?_, fun j b hg => ?_, fun d hd => ?_, fun m hm => ?_⟩
    · rcases h1 e (Array.mem_toList_iff.2 he) with h' | h'
      · rw [hb] at h'; cases h'
      · exact h'
    · rcases h2 t ht with h' | h'
      · rcases h' with h' | h'
        · have : ds.contains (some t) = true := List.contains_iff_mem.2 htD
          rw [this] at h'; cases h'
        · exact .inl h'
      · refine .inr fun j o' ho' hd' => ?_
        have hx := h' o' (by rw [Array.mem_toList_iff]; exact Array.mem_of_getElem? ho')
        rw [hd'] at hx
        have hbt : Nat.beq t t = true := Nat.beq_refl t
        simp only [hbt, Bool.not_true, Bool.false_eq_true, false_or] at hx
        obtain ⟨e, he, hb, hon⟩ := hx
        exact ⟨e, Array.mem_toList_iff.1 he, hb, hon⟩
    · rw [hg] at h3
      exact h3
    · obtain ⟨e, he, hb, hw⟩ := h4 d hd
      refine ⟨e, Array.mem_toList_iff.1 he, hb, ?_⟩
      rcases hke : ks[e.on]? with _ | kk
      · rw [hke] at hw; cases hw
      · rw [hke] at hw
        exact ⟨kk, rfl, List.contains_iff_mem.1 hw⟩
    · obtain ⟨⟨⟨o', k'⟩, j⟩, hj, ⟨hij, hbd⟩, e, he, hb, hon⟩ := h5 m hm
      rw [List.mk_mem_zipIdx_iff_getElem?, List.getElem?_zip_eq_some] at hj
      exact ⟨j, o', k', by rw [← Array.getElem?_toList]; exact hj.1, hj.2, hij, List.contains_iff_mem.1 hbd, e, Array.mem_toList_iff.1 he, hb, hon⟩
  have kAt : ∀ (i : Nat) (o : Oper), opsA[i]? = some o → ∃ kd, ks[i]? = some kd := by
    intro i o ho
    have := (Array.getElem?_eq_some_iff.1 ho).1
    exact ⟨_, List.getElem?_eq_getElem (by omega)⟩
  have uniq : ∀ (i j : Nat) (t : Tmp), ds[i]? = some (some t) → ds[j]? = some (some t) → i = j := by
    have key : ∀ (l : List (Option Tmp)), (l.filterMap _root_.id).Nodup → ∀ (i j : Nat) (t : Tmp), l[i]? = some (some t) → l[j]? = some (some t) → i = j := by
      intro l
      induction l with
      | nil => intro _ i j t h; simp at h
      | cons x l ih =>
        intro hn i j t hi hj
        have hn' : (l.filterMap _root_.id).Nodup := by
          cases hx : x with
          | none => rw [hx, List.filterMap_cons_none (f := _root_.id) (a := none) rfl] at hn; exact hn
          | some d => rw [hx, List.filterMap_cons_some (f := _root_.id) (a := some d) (b := d) rfl] at hn; exact (List.nodup_cons.1 hn).2
        have hno : ∀ (k : Nat), x = some t → l[k]? = some (some t) → False := by
          intro k hx hk
          rw [hx, List.filterMap_cons_some (f := _root_.id) (a := some t) (b := t) rfl] at hn
          exact (List.nodup_cons.1 hn).1 (List.mem_filterMap.2 ⟨_, List.mem_of_getElem? hk, rfl⟩)
        match i, j, hi, hj with
        | 0, 0, _, _ => rfl
        | 0, j + 1, hi, hj =>
          simp only [List.getElem?_cons_zero, Option.some.injEq] at hi
          simp only [List.getElem?_cons_succ] at hj
          exact (hno j hi hj).elim
        | i + 1, 0, hi, hj =>
          simp only [List.getElem?_cons_zero, Option.some.injEq] at hj
          simp only [List.getElem?_cons_succ] at hi
          exact (hno i hj hi).elim
        | i + 1, j + 1, hi, hj =>
          simp only [List.getElem?_cons_succ] at hi hj
          rw [ih hn' i j t hi hj]
    exact key ds hnd
  -- what is listed is of a level that has been reached; what is not listed holds the number down
  have lev : ∀ {listed : Array Bool} {a : Act} {w : World} {k : Nat → Bool} {h : Hist}, Inv6 opsA ks fs N Ph a0 listed a w k h → ∀ (i : Nat) (o : Oper) (kd : OpM), opsA[i]? = some o → ks[i]? = some kd → listed.getD i false = true → ∀ d ∈ kd.deps, k d = true := by
    intro listed a w k h inv i
    induction i using Nat.strongRecOn with
    | _ i ih =>
      intro o kd ho hk hl d hd
      obtain ⟨hb1, _, _, hq, _⟩ := form i o _ ho hk
      have hpre : d ∈ kd.pre → k d = true := fun hd => by
        obtain ⟨e, he, hb, k', hk', hle⟩ := hq d hd
        have hon := hb1 e he hb
        have hle' := inv.down i o ho hl e he hb
        have : e.on < opsA.size := by have := (List.getElem?_eq_some_iff.1 hk').1; omega
        exact ih e.on hon _ _ (Array.getElem?_eq_getElem this) hk' hle' d hle
      cases kd with
      | writes m D E =>
        rcases List.mem_cons.1 hd with rfl | hd
        · exact (inv.num i _ _ _ hk).1 hl
        · exact hpre hd
      | quiet D E => exact hpre hd
  have bnd : ∀ {listed : Array Bool} {a : Act} {w : World} {k : Nat → Bool} {h : Hist}, Inv6 opsA ks fs N Ph a0 listed a w k h → ∀ (c i : Nat) (o : Oper) (kd : OpM), opsA.size ≤ c + i → opsA[i]? = some o → ks[i]? = some kd → listed.getD i false = false → ∀ m ∈ kd.nots, k m = false := by
    intro listed a w k h inv c
    induction c with
    | zero =>
      intro i o kd hc ho _ _
      have := (Array.getElem?_eq_some_iff.1 ho).1
      omega
    | succ c ih =>
      intro i o kd hc ho hk hl m hm
      obtain ⟨_, _, _, _, hq⟩ := form i o _ ho hk
      have hah : m ∈ kd.ahead → k m = false := fun hm => by
        obtain ⟨j, o', k', ho', hk', hij, hbd, e, he, hb, hon⟩ := hq m hm
        have hj : listed.getD j false = false := by
          rcases hlj : listed.getD j false with _ | _
          · rfl
          · have := inv.down j o' ho' hlj e he hb
            rw [hon, hl] at this; cases this
        exact ih j o' k' (by omega) ho' hk' hj m hbd
      cases kd with
      | writes m' D E =>
        rcases List.mem_cons.1 hm with rfl | hm
        · rcases hx : k m with _ | _
          · rfl
          · have := (inv.num i _ _ _ hk).2 hx
            rw [hl] at this; cases this
        · exact hah hm
      | quiet D E => exact hah hm
  -- where nothing may come up, all has
  have done_ : ∀ listed : Array Bool, listed.size = opsA.size → Region.ready .any opsA listed = [] → ∀ j, j < opsA.size → listed.getD j false = true := by
    intro listed hls hr j
    induction j using Nat.strongRecOn with
    | _ j ih =>
      intro hj
      by_cases hl : listed.getD j false = true
      · exact hl
      · exfalso
        have hmem : j ∈ Region.ready .any opsA listed := by
          refine mem_ready.2 ⟨?_, opsA[j], Array.getElem?_eq_getElem hj, fun e he hb => ?_⟩
          · have : j < listed.size := by omega
            simp [this] at hl ⊢
            exact hl
          · obtain ⟨kd, hkd⟩ := kAt j _ (Array.getElem?_eq_getElem hj)
            have hon := (form j _ kd (Array.getElem?_eq_getElem hj) hkd).1 e he hb
            exact ih e.on hon (by omega)
        rw [hr] at hmem
        cases hmem
  -- the end
  have fin_ : ∀ (listed : Array Bool) (a : Act) (w : World) (k : Nat → Bool) (h : Hist), Inv6 opsA ks fs N Ph a0 listed a w k h → (∀ j, j < opsA.size → listed.getD j false = true) → Q .normal a w := by
    intro listed a w k h inv hall
    have hkN : ∀ m, m < N → k m = true := by
      intro m hlt
      have hmr : m ∈ ks.filterMap (·.wnum) := by rw [hwr]; exact List.mem_range.2 hlt
      obtain ⟨kd, hkd, hw⟩ := List.mem_filterMap.1 hmr
      obtain ⟨i, hi⟩ := List.getElem?_of_mem hkd
      cases kd with
      | quiet _ _ => cases hw
      | writes m' D E =>
        simp only [OpM.wnum, Option.some.injEq] at hw
        subst hw
        have hil := (List.getElem?_eq_some_iff.1 hi).1
        exact (inv.num i _ _ _ hi).1 (hall i (by omega))
    refine hfin w a h k hkN inv.ph ⟨by rw [inv.size, hs.size], by rw [inv.defers, hs.nd], fun t v e => ?_⟩
    rw [look_laid5] at e
    by_cases htd : some t ∈ ds
    · obtain ⟨i, hi⟩ := List.getElem?_of_mem htd
      obtain ⟨o, ho, hd⟩ := dsOf i t hi
      have hil := (Array.getElem?_eq_some_iff.1 ho).1
      have hf : fs[i]? = some (fs[i]'(by omega)) := List.getElem?_eq_getElem _
      rw [valOf_in ds fs i _ hnd hi hf] at e
      injection e with e
      rw [← e]
      exact inv.inn i o t _ ho hf hd (hall i hil)
    · rw [valOf_out ds fs htd] at e
      rw [inv.out t fun j o ho hd => (htd (List.mem_iff_getElem?.2 ⟨j, by rw [dsAt j o ho, hd]⟩)).elim]
      exact hs.sees t v e
  have main : ∀ (fuel : Nat) (listed : Array Bool) (a : Act) (w : World) (k : Nat → Bool) (h : Hist), Inv6 opsA ks fs N Ph a0 listed a w k h → (∀ j, j < opsA.size → listed.getD j false = false → 0 < fuel) → listed.toList.count false ≤ fuel → wpAny P .any opsA Q fuel listed a w := by
    intro fuel
    induction fuel with
    | zero =>
      intro listed a w k h inv h0 hc
      have hall : ∀ j, j < opsA.size → listed.getD j false = true := by
        intro j hj
        by_cases hl : listed.getD j false = true
        · exact hl
        · exact absurd (h0 j hj (by simpa using hl)) (by omega)
      refine ⟨?_, fin_ listed a w k h inv hall⟩
      rcases hr : Region.ready .any opsA listed with _ | ⟨i, r⟩
      · rfl
      · exfalso
        have hi : i ∈ Region.ready .any opsA listed := by rw [hr]; simp
        obtain ⟨hl, o, ho, _⟩ := mem_ready.1 hi
        have hil : i < opsA.size := (Array.getElem?_eq_some_iff.1 ho).1
        have := hall i hil
        have hil' : i < listed.size := by rw [inv.lsize]; exact hil
        simp [hil'] at hl this
        rw [hl] at this
        cases this
    | succ fuel ih =>
      intro listed a w k h inv _ hc
      refine ⟨fun hr => fin_ listed a w k h inv (done_ listed inv.lsize hr), fun i hi => ?_⟩
      obtain ⟨hl, o, ho, hedges⟩ := mem_ready.1 hi
      have hio : i < opsA.size := (Array.getElem?_eq_some_iff.1 ho).1
      have hil : i < listed.size := by rw [inv.lsize]; exact hio
      have hlf : listed.getD i false = false := by simp [hil] at hl ⊢; exact hl
      obtain ⟨kd, hkd⟩ := kAt i o ho
      obtain ⟨hback, hlook, hguard, hpre, _⟩ := form i o kd ho hkd
      obtain ⟨f, hf, hob⟩ := obsM_at ks fs ops hobs i o kd (by rw [← hAl]; exact ho) hkd
      have hseen : Seen5 opsA o ds fs L h a (o.looksAt opsA) := by
        have key : ∀ ts : List Tmp, (∀ t ∈ ts, t ∈ o.looksAt opsA) → Seen5 opsA o ds fs L h a ts := by
          intro ts
          induction ts with
          | nil => intro _; trivial
          | cons t r ihr =>
            intro hts
            refine ⟨fun v e => ?_, ihr fun u hu => hts u (by simp [hu])⟩
            unfold seeOf at e
            by_cases hed : edgeTo opsA o t = true
            · obtain ⟨e', he', hb', hd'⟩ := edgeTo_some hed
              rw [hed] at e
              simp only at e
              obtain ⟨oj, hoj, hdj⟩ := Option.bind_eq_some_iff.1 hd'
              have hjl := (Array.getElem?_eq_some_iff.1 hoj).1
              have hfj : fs[e'.on]? = some (fs[e'.on]'(by omega)) := List.getElem?_eq_getElem _
              rw [valOf_in ds fs e'.on _ hnd (by rw [dsAt e'.on oj hoj, hdj]) hfj] at e
              injection e with e
              rw [← e]
              exact inv.inn e'.on oj t _ hoj hfj hdj (hedges e' he' hb')
            · have hed' : edgeTo opsA o t = false := by simpa using hed
              rw [hed'] at e
              simp only at e
              rw [inv.out t fun j oj hoj hdj => ?_]
              · exact hs.sees t v e
              · rcases hlook t (hts t (by simp)) (List.mem_iff_getElem?.2 ⟨j, by rw [dsAt j oj hoj, hdj]⟩) with h' | h'
                · exact absurd h' hed
                · obtain ⟨e', he', hb', hon'⟩ := h' j oj hoj hdj
                  rcases hlj : listed.getD j false with _ | _
                  · rfl
                  · have := inv.down j oj hoj hlj e' he' hb'
                    rw [hon', hlf] at this
                    cases this
        exact key _ fun t ht => ht
      have hcount : (listed.setIfInBounds i true).toList.count false ≤ fuel := by
        have e : listed.toList = listed.toList.take i ++ false :: listed.toList.drop (i + 1) := by
          have hi2 : i < listed.toList.length := by simpa using hil
          have hg : listed.toList[i] = false := by
            simp [hil] at hlf
            simpa using hlf
          rw [← hg]
          conv => lhs; rw [← List.take_append_drop i listed.toList, List.drop_eq_getElem_cons hi2]
        have e' : (listed.setIfInBounds i true).toList = listed.toList.take i ++ true :: listed.toList.drop (i + 1) := by
          rw [Array.toList_setIfInBounds, List.set_eq_take_append_cons_drop, if_pos (by simpa using hil)]
        rw [e] at hc
        rw [e']
        simp only [List.count_append, List.count_cons] at hc ⊢
        simp at hc ⊢
        omega
      -- the next state
      have step : ∀ v w' k' h', (∀ m D E, kd = .writes m D E → k' = setB k m) → ((∀ m D E, kd ≠ .writes m D E) → k' = k) → (∀ i, k i = true → h i = h' i) → f h' = v → Ph k' h' w' → wpAny P .any opsA Q fuel (listed.setIfInBounds i true) (a.put o.dst v) w' := by
        intro v w' k' h' hk1 hk2 hh hv hPh
        have hinv : Inv6 opsA ks fs N Ph a0 (listed.setIfInBounds i true) (a.put o.dst v) w' k' h' := by
          refine ⟨by simp [inv.lsize], ?_, by rw [Act.size_put, inv.size], ?_, ?_, ?_, ?_, hPh⟩
          · cases h : o.dst <;> simp [Act.put, inv.defers]
          · intro t ht
            cases hd : o.dst with
            | none =>
              refine inv.out t fun j oj hoj hdj => ?_
              have hji : i ≠ j := fun e => by
                subst e
                rw [ho] at hoj
                injection hoj with hoj
                subst hoj
                rw [hd] at hdj
                cases hdj
              have := ht j oj hoj hdj
              rwa [getD_set_other false hji] at this
            | some d =>
              have htd : d ≠ t := fun e => by
                subst e
                have := ht i o ho hd
                rw [getD_set_same false hil] at this
                cases this
              rw [Act.eval_put_ne _ htd]
              refine inv.out t fun j oj hoj hdj => ?_
              have hji : i ≠ j := fun e => by
                subst e
                rw [ho] at hoj
                injection hoj with hoj
                subst hoj
                rw [hd] at hdj
                injection hdj with hdj
                exact htd hdj
              have := ht j oj hoj hdj
              rwa [getD_set_other false hji] at this
          · intro j oj t fj hoj hfj hdj hlj
            by_cases hji : i = j
            · subst hji
              rw [ho] at hoj
              injection hoj with hoj
              subst hoj
              rw [hf] at hfj
              injection hfj with hfj
              subst hfj
              have hts : t < a.tmps.size := by
                rw [inv.size, hs.size]
                have : t ∈ ds.filterMap _root_.id := List.mem_filterMap.2 ⟨some t, List.mem_iff_getElem?.2 ⟨i, by rw [dsAt i o ho, hdj]⟩, rfl⟩
                exact hlt t this
              rw [hdj, Act.eval_put_same _ hts, hv]
            · rw [getD_set_other false hji] at hlj
              have hvj := inv.inn j oj t fj hoj hfj hdj hlj
              have hst : fj h' = fj h := by
                obtain ⟨kj, hkj⟩ := kAt j oj hoj
                obtain ⟨fj', hfj', hobj⟩ := obsM_at ks fs ops hobs j oj kj (by rw [← hAl]; exact hoj) hkj
                rw [hfj] at hfj'
                injection hfj' with hfj'
                subst hfj'
                have hlv := lev inv j oj kj hoj hkj hlj
                cases kj with
                | quiet D E => exact (hobj.1 h h' fun i hi => hh i (hlv i hi)).symm
                | writes m D E =>
                  have := hobj.1
                  rw [this]
                  exact (hh m (hlv m (List.mem_cons_self ..))).symm
              rw [hst]
              cases hd : o.dst with
              | none => exact hvj
              | some d =>
                have : d ≠ t := fun e => by
                  subst e
                  exact hji (uniq i j d (by rw [dsAt i o ho, hd]) (by rw [dsAt j oj hoj, hdj]))
                rw [Act.eval_put_ne _ this]
                exact hvj
          · intro j m D E hj
            by_cases hji : i = j
            · subst hji
              rw [hkd] at hj
              injection hj with hj
              rw [getD_set_same false hil, hk1 m D E hj]
              simp [setB]
            · rw [getD_set_other false hji, inv.num j m D E hj]
              cases hkk : kd with
              | quiet _ _ => rw [hk2 (fun m D E e => by rw [hkk] at e; cases e)]
              | writes m' D' E' =>
                rw [hk1 m' D' E' hkk]
                have hne : m ≠ m' := fun e => by
                  subst e
                  have hnd' : (ks.filterMap (·.wnum)).Nodup := by rw [hwr]; exact List.nodup_range
                  exact hji (wnum_uniq ks hnd' i j (by rw [hkd, hkk]; rfl) (by rw [hj]; rfl))
                rw [setB_ne _ hne]
          · intro j oj hoj hlj e he hb
            by_cases hji : i = j
            · subst hji
              rw [ho] at hoj
              injection hoj with hoj
              subst hoj
              have hon := hback e he hb
              rw [getD_set_other false (by omega)]
              exact hedges e he hb
            · rw [getD_set_other false hji] at hlj
              have h1 := inv.down j oj hoj hlj e he hb
              by_cases hie : i = e.on
              · rw [← hie, getD_set_same false hil]
              · rw [getD_set_other false hie]
                exact h1
        refine ih (listed.setIfInBounds i true) (a.put o.dst v) w' k' h' hinv (fun j hj hlj => ?_) hcount
        rcases Nat.eq_zero_or_pos fuel with h0 | h0
        · exfalso
          have hz : (listed.setIfInBounds i true).toList.count false = 0 := by omega
          rw [List.count_eq_zero] at hz
          have hjl : j < (listed.setIfInBounds i true).size := by rw [Array.size_setIfInBounds, inv.lsize]; exact hj
          refine hz ?_
          have hget : (listed.setIfInBounds i true)[j] = false := by
            rw [Array.getD_eq_getD_getElem?, Array.getElem?_eq_getElem hjl] at hlj
            simpa using hlj
          rw [← hget]
          exact Array.mem_toList_iff.2 (Array.getElem_mem hjl)
        · exact h0
      -- a guard
      have gd : ∀ (j : Nat) (b : Bool), o.guard = some (j, b) → ∀ g, (opsA[j]?).bind (·.dst) = some g → (Region.wanted o (yielded opsA a.tmps) = true ↔ a.eval (.tmp g) = .bool b) := by
        intro j b hg g hgd
        have hy : yielded opsA a.tmps j = (match a.tmps[g]? with | some (.bool c) => some c | _ => none) := by
          unfold yielded
          rw [hgd]
          rfl
        unfold Region.wanted
        rw [hg]
        show (yielded opsA a.tmps j == some b) = true ↔ _
        rw [hy]
        rcases Nat.lt_or_ge g a.tmps.size with hgs | hgs
        · have : a.eval (.tmp g) = a.tmps[g] := by simp [Act.eval, hgs]
          rw [this, Array.getElem?_eq_getElem hgs]
          rcases hx : a.tmps[g] <;> simp
        · simp [Act.eval, Array.getElem?_eq_none hgs, undef]
      have hPh := inv.ph
      have hbd := bnd inv opsA.size i o kd (by omega) ho hkd hlf
      have hpr : ∀ d ∈ kd.pre, k d = true := fun d hd => by
        obtain ⟨e, he, hb, k', hk', hle⟩ := hpre d hd
        have hon := hback e he hb
        have hle' := hedges e he hb
        have : e.on < opsA.size := by omega
        exact lev inv e.on _ k' (Array.getElem?_eq_getElem this) hk' hle' d hle
      cases hkk : kd with
      | quiet D E =>
        rw [hkk] at hob hbd hpr
        have hop := hob.2 a w h k hpr hbd hPh hseen
        have step' : ∀ w', Ph k h w' → wpAny P .any opsA Q fuel (listed.setIfInBounds i true) (a.put o.dst (f h)) w' := fun w' hP =>
          step (f h) w' k h (fun m D E e => by rw [hkk] at e; cases e) (fun _ => rfl) (fun _ _ => rfl) rfl hP
        unfold wpOp
        simp only [ho]
        cases hg : o.guard with
        | none =>
          rw [hg] at hop
          simp only [Region.wanted, hg, if_true]
          refine .inl (Oper.wp_mono ?_ hop)
          rintro a' w' ⟨rfl, hP⟩
          exact step' w' hP
        | some jb =>
          obtain ⟨j, b⟩ := jb
          rw [hg] at hop
          obtain ⟨g, hgd⟩ := Option.isSome_iff_exists.1 (hguard j b hg)
          dsimp only at hop
          rw [hgd] at hop
          simp only [Option.getD_some] at hop
          by_cases hgv : a.eval (.tmp g) = .bool b
          · rw [if_pos ((gd j b hg g hgd).2 hgv)]
            refine .inl (Oper.wp_mono ?_ (hop.1 hgv))
            rintro a' w' ⟨rfl, hP⟩
            exact step' w' hP
          · rw [if_neg (fun e => hgv ((gd j b hg g hgd).1 e)), ← hop.2 hgv]
            exact step' w hPh
      | writes m D E =>
        rw [hkk] at hob hbd hpr
        obtain ⟨hgok, hop⟩ := hob.2 a w h k hpr (fun n hn => hbd n (List.mem_cons_of_mem _ hn)) (hbd m (List.mem_cons_self ..)) hPh hseen
        have hwant : Region.wanted o (yielded opsA a.tmps) = true := by
          cases hg : o.guard with
          | none => simp [Region.wanted, hg]
          | some jb =>
            obtain ⟨j, b⟩ := jb
            rw [hg] at hgok
            obtain ⟨g, hgd⟩ := Option.isSome_iff_exists.1 (hguard j b hg)
            dsimp only at hgok
            rw [hgd] at hgok
            exact (gd j b hg g hgd).2 hgok
        unfold wpOp
        simp only [ho]
        rw [if_pos hwant]
        refine .inl (Oper.wp_mono ?_ hop)
        rintro a' w' ⟨v, rfl, hP⟩
        refine step v w' (setB k m) (upd h m v) (fun m' D' E' e => by rw [hkk] at e; injection e with e; rw [e]) (fun hn => (hn m D E hkk).elim) (fun i hi => (upd_ne h v (fun e => by subst e; rw [hbd i (List.mem_cons_self ..)] at hi; cases hi)).symm) ?_ hP
        rw [hob.1]
        exact upd_same h m v
  refine main _ _ _ _ (fun _ => false) (fun _ => undef) ⟨by simp, rfl, rfl, fun _ _ => rfl, fun j o t f ho hf hd hl => ?_, fun i m D E hi => ?_, fun i o ho hl => ?_, h0 _⟩ ?_ ?_
  · simp [Array.getD_eq_getD_getElem?, Array.getElem?_replicate] at hl
    split at hl <;> simp at hl
  · simp [Array.getD_eq_getD_getElem?, Array.getElem?_replicate]
    split <;> simp
  · simp [Array.getD_eq_getD_getElem?, Array.getElem?_replicate] at hl
    split at hl <;> simp at hl
  · intro j hj _
    omega
  · simp

theorem sl_flow6 {id n N : Nat} {L : List (Tmp × Value)} {a0 : Act} {ops : List Oper} {w : World} {Q : Exit → Act → World → Prop}
    (ds : List (Option Tmp)) (ks : List OpM) (Ph : (Nat → Bool) → Hist → World → Prop) (fs : List (Hist → Value)) (hs : Sl n L a0) (hm : P.follows .mixedOrders = true) (hok : planOkM ops.toArray ds ks N n = true) (hfl : fs.length = ks.length)
    (h0 : ∀ h, Ph (fun _ => false) h w.drew) (hobs : ObsM P ops.toArray ds fs L Ph Q ks fs ops)
    (hfin : ∀ w' a' h S, (∀ m, m < N → S m = true) → Ph S h w' → Sl n (laid5 h L ds fs) a' → Q .normal a' w') :
    (Code.region id ops.toArray true).wp P Q a0 w := by
  exact wp_region_any hm (sl_any6 ds ks Ph fs hs hm hok hfl h0 hobs hfin)

/-! ### one operation -/
section
variable {ops : Array Oper} {ds : List (Option Tmp)} {fs : List (Hist → Value)} {L : List (Tmp × Value)} {Ph : (Nat → Bool) → Hist → World → Prop} {Q : Exit → Act → World → Prop} {D E : List Nat} {m : Nat} {f : Hist → Value} {o : Oper}

theorem obm_quiet (hg : o.guard = none) (hop : ∀ a w h S, (∀ m ∈ D, S m = true) → (∀ m ∈ E, S m = false) → Ph S h w → Seen5 ops o ds fs L h a (o.looksAt ops) → ∀ K : Act → World → Prop, (∀ w', Ph S h w' → K (a.put o.dst (f h)) w') → o.wp P a w K Q)
    (hst : ∀ h h' : Hist, (∀ i ∈ D, h i = h' i) → f h = f h') : ObM P ops ds fs L Ph Q (.quiet D E) f o :=
  ⟨hst, fun a w h S h1 h2 h3 h4 => by
    rw [hg]
    exact hop a w h S h1 h2 h3 h4 _ fun w' hw => ⟨rfl, hw⟩⟩
theorem obm_want {j g : Nat} {b : Bool} (hg : o.guard = some (j, b)) (hj : (ops[j]?).bind (·.dst) = some g) (hv : ∀ h, seeOf ops o L h g ds fs = some (.bool b))
    (hop : ∀ a w h S, (∀ m ∈ D, S m = true) → (∀ m ∈ E, S m = false) → Ph S h w → Seen5 ops o ds fs L h a (o.looksAt ops) → ∀ K : Act → World → Prop, (∀ w', Ph S h w' → K (a.put o.dst (f h)) w') → o.wp P a w K Q)
    (hst : ∀ h h' : Hist, (∀ i ∈ D, h i = h' i) → f h = f h') : ObM P ops ds fs L Ph Q (.quiet D E) f o :=
  ⟨hst, fun a w h S h1 h2 h3 h4 => by
    rw [hg]
    simp only [hj]
    refine ⟨fun _ => hop a w h S h1 h2 h3 h4 _ fun w' hw => ⟨rfl, hw⟩, fun hne => absurd (seen_guard hg hj h4 (hv h)) hne⟩⟩
theorem obm_skip {j g : Nat} {b : Bool} (hg : o.guard = some (j, b)) (hj : (ops[j]?).bind (·.dst) = some g) (hv : ∀ h, seeOf ops o L h g ds fs = some (.bool (!b))) : ObM P ops ds fs L Ph Q (.quiet D E) (fun _ => undef) o :=
  ⟨fun _ _ _ => rfl, fun a w h S h1 h2 h3 h4 => by
    rw [hg]
    simp only [hj]
    refine ⟨fun he => ?_, fun _ => trivial⟩
    have := seen_guard hg hj h4 (hv h)
    simp only [Option.getD_some] at he
    rw [this] at he
    cases b <;> simp at he⟩
theorem obm_skip_u {j g : Nat} {b : Bool} (hg : o.guard = some (j, b)) (hj : (ops[j]?).bind (·.dst) = some g) (hv : ∀ h, seeOf ops o L h g ds fs = some undef) : ObM P ops ds fs L Ph Q (.quiet D E) (fun _ => undef) o :=
  ⟨fun _ _ _ => rfl, fun a w h S h1 h2 h3 h4 => by
    rw [hg]
    simp only [hj]
    refine ⟨fun he => ?_, fun _ => trivial⟩
    have := seen_guard hg hj h4 (hv h)
    simp only [Option.getD_some] at he
    rw [this] at he
    simp [undef] at he⟩
theorem obm_writes (hg : o.guard = none) (hop : ∀ a w h S, (∀ m ∈ D, S m = true) → (∀ m ∈ E, S m = false) → S m = false → Ph S h w → Seen5 ops o ds fs L h a (o.looksAt ops) → ∀ K : Act → World → Prop, (∀ v w', Ph (setB S m) (upd h m v) w' → K (a.put o.dst v) w') → o.wp P a w K Q) : ObM P ops ds fs L Ph Q (.writes m D E) (fun h => h m) o :=
  ⟨rfl, fun a w h S h1 h2 h3 h4 h5 => by
    rw [hg]
    exact ⟨trivial, hop a w h S h1 h2 h3 h4 h5 _ fun v w' hw => ⟨v, rfl, hw⟩⟩⟩
theorem obm_writes_want {j g : Nat} {b : Bool} (hg : o.guard = some (j, b)) (hj : (ops[j]?).bind (·.dst) = some g) (hv : ∀ h, seeOf ops o L h g ds fs = some (.bool b))
    (hop : ∀ a w h S, (∀ m ∈ D, S m = true) → (∀ m ∈ E, S m = false) → S m = false → Ph S h w → Seen5 ops o ds fs L h a (o.looksAt ops) → ∀ K : Act → World → Prop, (∀ v w', Ph (setB S m) (upd h m v) w' → K (a.put o.dst v) w') → o.wp P a w K Q) : ObM P ops ds fs L Ph Q (.writes m D E) (fun h => h m) o :=
  ⟨rfl, fun a w h S h1 h2 h3 h4 h5 => by
    rw [hg]
    simp only [hj]
    exact ⟨seen_guard hg hj h5 (hv h), hop a w h S h1 h2 h3 h4 h5 _ fun v w' hw => ⟨v, rfl, hw⟩⟩⟩
end
end
end Go.Proofs.YtefloadjolpgbaaGreatDoor

namespace Go.Proofs.YtefloadjolpgbaaGreatDoor
open Go.RowKit

/-- A fence that bars nothing. -/
structure Wd (F : Fence) : Prop where
  fn : ∀ f, F.fn f
  depth : F.depth = none
  calls : ∀ {n : Nat} {P : Program} {f : FuncId} {args : Array Value} {w : World} {R : Ending → World → Prop}, Calls P f args w R → CallsIn F n P f args w R
  rows : ∀ {n : Nat} {P : Program} {row : String} {args : Array Value} {w : World} {R : Value → World → Prop}, Rows P row args w R → RowsIn F n P row args w R
theorem rowsIn_of {n : Nat} {P : Program} {row : String} {args : Array Value} {w : World} {R : Value → World → Prop} (h : Rows P row args w R) : RowsIn Fence.wide n P row args w R :=
  fun c cs _ => let ⟨v, w', r, s⟩ := h c cs; ⟨v, w', r, stepsIn_wide.2 s⟩
theorem Wd.wide : Wd Fence.wide := ⟨fun _ => trivial, rfl, fun h => callsIn_wide.2 h, fun h => rowsIn_of h⟩
theorem Wd.inRound (l : Nat) : Wd (Fence.wide.inRound l) := ⟨fun _ => trivial, rfl, fun h => CallsIn.inRound l (callsIn_wide.2 h), fun h => rowsIn_of h⟩

section
variable {P : Program} {F : Fence} {n m : Nat} {L : List (Tmp × Value)} {a : Act} {ops : Array Oper} {Q : Exit → Act → World → Prop} {w : World} {rest : List Oper} {o : Oper} {d : Tmp}

/-- An operation that is neither put off nor a row of the library's. -/
def calm (o : Oper) : Bool := match o.op with
  | .defer _ => false
  | _ => true
theorem calm_ne {o : Oper} (h : calm o = true) : ∀ c, o.op ≠ .defer c := by
  intro c he
  unfold calm at h
  rw [he] at h
  cases h

theorem oper_in (hW : Wd F) (hc : calm o = true) {K : Act → World → Prop} (h : o.wp P a w K Q) : o.wpIn F m P a w K Q := by
  have hs : o.semAt F.round a.eval = execOp a.eval o := Oper.semAt_eq _ _ _ (calm_ne hc)
  refine ⟨fun f _ => hW.fn f, ?_⟩
  rw [hs]
  unfold Oper.wp at h
  rcases hx : (execOp a.eval o).run P w with ⟨x, w'⟩ | ⟨x, w'⟩
  · rw [hx] at h
    cases x with
    | value v => exact h
    | skip => exact h
    | defer d => exact h
    | enter f args => exact ⟨(fun hd => by rw [hW.depth] at hd; cases hd), hW.calls h⟩
    | row row args => exact ⟨(fun hd => by rw [hW.depth] at hd; cases hd), hW.rows h⟩
    | _ => exact h.elim
  · rw [hx] at h
    cases x with
    | panic v => exact h
    | _ => exact h.elim

/-! ### steps of a region of forced order -/
theorem slIn_op (hW : Wd F) (h : Sl n L a) (hg : o.guard = none) (hd : o.dst = some d) (hc : calm o = true) (hn : d < n)
    (hop : ∀ K : Act → World → Prop, (∀ v w', (∀ a', Sl n ((d, v) :: L) a' → wpListIn F m P ops Q rest a' w') → K (a.put (some d) v) w') → o.wp P a w K Q) : wpListIn F m P ops Q (o :: rest) a w := by
  have hw : Region.wanted o (yielded ops a.tmps) = true := by simp [Region.wanted, hg]
  rw [wpListIn, if_pos hw]
  refine oper_in hW hc (hop _ fun v w' hk => ?_)
  exact hk _ (h.put hn v)
theorem slIn_op0 (hW : Wd F) (h : Sl n L a) (hg : o.guard = none) (hd : o.dst = none) (hc : calm o = true)
    (hop : ∀ K : Act → World → Prop, (∀ w', (∀ a', Sl n L a' → wpListIn F m P ops Q rest a' w') → K a w') → o.wp P a w K Q) : wpListIn F m P ops Q (o :: rest) a w := by
  have hw : Region.wanted o (yielded ops a.tmps) = true := by simp [Region.wanted, hg]
  rw [wpListIn, if_pos hw]
  refine oper_in hW hc (hop _ fun w' hk => ?_)
  exact hk _ h
theorem slIn_move (hW : Wd F) {t : Tmp} {v : Value} (h : Sl n L a) (hg : o.guard = none) (hd : o.dst = some d) (ho : o.op = .move (.tmp t) ∨ o.op = .assign (.tmp t)) (hn : d < n) (hv : look L t = some v)
    (hk : ∀ a', Sl n ((d, v) :: L) a' → wpListIn F m P ops Q rest a' w) : wpListIn F m P ops Q (o :: rest) a w := by
  refine slIn_op hW h hg hd (by unfold calm; rcases ho with ho | ho <;> rw [ho]) hn fun K hK => ?_
  have : K (a.put o.dst (a.eval (.tmp t))) w := by
    rw [h.sees t v hv, hd]
    exact hK _ _ hk
  rcases ho with ho | ho
  · exact BigFrame.wp_move _ ho this
  · exact BigFrame.wp_assign _ ho this
theorem slIn_const (hW : Wd F) {v : Value} (h : Sl n L a) (hg : o.guard = none) (hd : o.dst = some d) (ho : o.op = .move (.const v) ∨ o.op = .assign (.const v)) (hn : d < n)
    (hk : ∀ a', Sl n ((d, v) :: L) a' → wpListIn F m P ops Q rest a' w) : wpListIn F m P ops Q (o :: rest) a w := by
  refine slIn_op hW h hg hd (by unfold calm; rcases ho with ho | ho <;> rw [ho]) hn fun K hK => ?_
  have : K (a.put o.dst (a.eval (.const v))) w := by
    rw [hd]
    exact hK _ _ hk
  rcases ho with ho | ho
  · exact BigFrame.wp_move _ ho this
  · exact BigFrame.wp_assign _ ho this
theorem wanted_of {j g : Nat} {b c : Bool} (h : Sl n L a) (hg : o.guard = some (j, b)) (hj : (ops[j]?).bind (·.dst) = some g) (hb : look L g = some (.bool c)) : Region.wanted o (yielded ops a.tmps) = (c == b) := by
  have e := h.sees g _ hb
  unfold Region.wanted yielded
  rw [hg]
  simp only [hj]
  have hgs : g < a.tmps.size := by
    rcases Nat.lt_or_ge g a.tmps.size with h | h
    · exact h
    · simp [Act.eval, Array.getElem?_eq_none h, undef] at e
  have : a.tmps[g]? = some (.bool c) := by
    simp [Act.eval, hgs] at e
    rw [Array.getElem?_eq_getElem hgs, e]
  simp [this]
theorem slIn_want (hW : Wd F) {j g : Nat} {b : Bool} (h : Sl n L a) (hg : o.guard = some (j, b)) (hj : (ops[j]?).bind (·.dst) = some g) (hb : look L g = some (.bool b)) (hd : o.dst = some d) (hc : calm o = true) (hn : d < n)
    (hop : ∀ K : Act → World → Prop, (∀ v w', (∀ a', Sl n ((d, v) :: L) a' → wpListIn F m P ops Q rest a' w') → K (a.put (some d) v) w') → o.wp P a w K Q) : wpListIn F m P ops Q (o :: rest) a w := by
  have hw := wanted_of (o := o) h hg hj hb
  rw [wpListIn, if_pos (by rw [hw]; simp)]
  refine oper_in hW hc (hop _ fun v w' hk => ?_)
  exact hk _ (h.put hn v)
/-- The same, for what is carried out by hand. -/
theorem slIn_wantR {j g : Nat} {b : Bool} (h : Sl n L a) (hg : o.guard = some (j, b)) (hj : (ops[j]?).bind (·.dst) = some g) (hb : look L g = some (.bool b)) (hn : d < n)
    (hop : ∀ K : Act → World → Prop, (∀ v w', (∀ a', Sl n ((d, v) :: L) a' → wpListIn F m P ops Q rest a' w') → K (a.put (some d) v) w') → o.wpIn F m P a w K Q) : wpListIn F m P ops Q (o :: rest) a w := by
  have hw := wanted_of (o := o) h hg hj hb
  rw [wpListIn, if_pos (by rw [hw]; simp)]
  exact hop _ fun v w' hk => hk _ (h.put hn v)
theorem slIn_skip (hW : Wd F) {j g : Nat} {b : Bool} (h : Sl n L a) (hg : o.guard = some (j, b)) (hj : (ops[j]?).bind (·.dst) = some g) (hb : look L g = some (.bool (!b))) (hd : o.dst = some d) (hn : d < n)
    (hk : ∀ a', Sl n ((d, undef) :: L) a' → wpListIn F m P ops Q rest a' w) : wpListIn F m P ops Q (o :: rest) a w := by
  have hw := wanted_of (o := o) h hg hj hb
  rw [wpListIn, if_neg (by rw [hw]; cases b <;> simp)]
  refine ⟨fun f _ => hW.fn f, ?_⟩
  rw [hd]
  exact hk _ (h.put hn undef)
theorem slIn_skip_u (hW : Wd F) {j g : Nat} {b : Bool} (h : Sl n L a) (hg : o.guard = some (j, b)) (hj : (ops[j]?).bind (·.dst) = some g) (hb : look L g = some undef) (hd : o.dst = some d) (hn : d < n)
    (hk : ∀ a', Sl n ((d, undef) :: L) a' → wpListIn F m P ops Q rest a' w) : wpListIn F m P ops Q (o :: rest) a w := by
  have e := h.sees g _ hb
  have hw : ¬ Region.wanted o (yielded ops a.tmps) = true := by
    unfold Region.wanted yielded
    rw [hg]
    simp only [hj]
    rcases Nat.lt_or_ge g a.tmps.size with hgs | hgs
    · have : a.tmps[g]? = some undef := by
        simp [Act.eval, hgs] at e
        rw [Array.getElem?_eq_getElem hgs, e]
      simp [this, undef]
    · simp [Array.getElem?_eq_none hgs]
  rw [wpListIn, if_neg hw]
  refine ⟨fun f _ => hW.fn f, ?_⟩
  rw [hd]
  exact hk _ (h.put hn undef)
theorem slIn_nil {y : Code} {Q' : Exit → Act → World → Prop} (h : Code.wpIn F m P y Q a w) : wpListIn F m P ops (Exit.then (Code.wpIn F m P y Q) Q') [] a w := h
theorem slIn_then {y : Code} {Q' : Exit → Act → World → Prop} (h : Code.wpIn F m P y Q a w) : Exit.then (Code.wpIn F m P y Q) Q' .normal a w := h

/-! ### a region that draws -/
theorem any_in (hW : Wd F) (hL : ¬ LetsOut Q) {opsA : Array Oper} (hc : ∀ o ∈ opsA, calm o = true) : ∀ (fuel : Nat) (listed : Array Bool) (a : Act) (w : World), wpAny P .any opsA Q fuel listed a w → wpAnyIn F m P .any opsA Q fuel listed a w
  | 0, listed, a, w, h => h
  | fuel + 1, listed, a, w, h => by
    refine ⟨h.1, fun i hi => ?_⟩
    have hx := h.2 i hi
    unfold wpOp at hx
    unfold wpOpIn
    rcases ho : opsA[i]? with _ | o
    · rw [ho] at hx
      exact any_in hW hL hc fuel _ _ _ hx
    · rw [ho] at hx
      simp only at hx ⊢
      split at hx
      · rename_i hw
        rw [if_pos hw]
        rcases hx with hx | hx
        · refine Oper.wpIn_mono (fun a' w' h' => any_in hW hL hc fuel _ _ _ h') (oper_in hW (hc o (Array.mem_of_getElem? ho)) hx)
        · exact absurd hx.2 hL
      · rename_i hw
        rw [if_neg hw]
        exact ⟨fun f _ => hW.fn f, any_in hW hL hc fuel _ _ _ hx⟩
theorem region_in (hW : Wd F) (hm : P.follows .mixedOrders = true) (hL : ¬ LetsOut Q) {id : Nat} {opsA : Array Oper} (hc : opsA.all calm = true) (h : wpAny P .any opsA Q opsA.size (Array.replicate opsA.size false) a w.drew) : (Code.region id opsA true).wpIn F m P Q a w :=
  wpIn_region_any hm (any_in hW hL (fun o ho => by rw [Array.all_eq_true_iff_forall_mem] at hc; exact hc o ho) _ _ _ _ h)
end
end Go.Proofs.YtefloadjolpgbaaGreatDoor

namespace Go.Proofs.YtefloadjolpgbaaGreatDoor
open Go.RowKit
attribute [local go_sem] Oper.semAt_some

theorem Mod.grown {W W' : World} (h : Mod Nil W W') : W.grownBy W' none := ⟨h.os, h.tape, h.output, h.size, fun k hk _ => h.block k hk id⟩

/-- What a round keeps: all cells but some blocks of its own. -/
structure KpC (G : Nat → Prop) (W W' : World) : Prop where
  size : W.heap.size ≤ W'.heap.size
  same : ∀ (k : Nat) (o : Obj), W.heap[k]? = some o → o.isCells = true → ¬ G k → W'.heap[k]? = some o
theorem KpC.blk {G : Nat → Prop} {W W' : World} (h : KpC G W W') {g : Nat} {t : TypeId} {cs : Array Value} (hb : Blk W g t cs) (hg : ¬ G g) : Blk W' g t cs := h.same g _ hb rfl hg

def encT (x : Tok × Nat) : Array Value := #[tokV x.1 x.2]

theorem sl_enterIn {P : Program} {F : Fence} {m n : Nat} (hW : Wd F) (hro : F.round = none) {f : FuncId} {fn : Func} {c : Code} {args : List Value} {w : World} {R : Ending → World → Prop} (hf : P.funcs[f]? = some fn) (hb : fn.body = some c) (hn : fn.ntmps = n) (ha : args.length ≤ n)
    (h : ∀ a, Sl n (argL args 0) a → c.wpIn F m P (bodyPost P fn R) a w) : CallsIn F m P f args.toArray w R := by
  refine callsIn_of_wp hf hb (hW.fn f) (h _ ⟨?_, rfl, fun t v e => ?_⟩) hro
  · simp [hn]
    omega
  · obtain ⟨_, h2⟩ := look_argL _ _ _ _ e
    have hl := (List.getElem?_eq_some_iff.1 h2).1
    simp only [Nat.sub_zero] at h2 hl
    simp only [Act.eval, Array.getD_eq_getD_getElem?, Array.getElem?_append, List.size_toArray, hl, if_true, List.getElem?_toArray, h2, Option.getD_some]

noncomputable def itBody : Code := (Tryz.f9.body).getD .skip

/-- Between two tokens. -/
def ItI (l : List UInt8) (G : Nat → Prop) (lp Bs : Nat) (J : List (Tok × Nat) → World → Prop) (W0 : World) (ac : Act) (w : World) : Prop :=
  ∃ (p : Nat) (pre : List (Tok × Nat)), Sl 31 [(0, .func (.yield lp) #[] #[]), (1, .pointer (some ⟨Bs, 0, none⟩)), (3, .int .i64 (p : Nat))] ac ∧ p ≤ l.length ∧ strW l 0 = pre ++ strW (l.drop p) p ∧ J pre w ∧ Blk w Bs 9 #[.string (str l)] ∧ W0.heap.size ≤ w.heap.size

set_option maxHeartbeats 3200000 in
set_option maxRecDepth 100000 in
theorem stream1_in (l : List UInt8) (hl : l.length ≤ 500) (n lp Bs : Nat) (G : Nat → Prop) (J Jx : List (Tok × Nat) → World → Prop) (W : World) (hJ : AbidesFrom W.heap.size J) (hG : ∀ g, G g → g < W.heap.size) (hBs : ¬ G Bs)
    (hc : Blk W Bs 9 #[.string (str l)])
    (hY : ∀ pre x W1, J pre W1 → pre.length < (strW l 0).length → YieldAt Fence.wide (n - 1) Tryz.prog lp (encT x) W1 fun e W' => (e = .returned (.bool true) ∧ J (pre ++ [x]) W' ∧ KpC G W1 W') ∨ (e = .returned (.bool false) ∧ Jx (pre ++ [x]) W'))
    (h0 : J [] W) :
    CallsIn Fence.wide n Tryz.prog 9 #[.func (.yield lp) #[] #[], .pointer (some ⟨Bs, 0, none⟩)] W fun e W' => (∃ v, e = .returned v) ∧ ((∃ xs, xs = strW l 0 ∧ J xs W') ∨ (∃ pre, pre <+: strW l 0 ∧ Jx pre W')) := by
  have HW : Wd Fence.wide := Wd.wide
  have HJ := Lib.hid hJ
  have HG := Lib.hid hG
  have HY := Lib.hid hY
  have hsz := str_size l
  clear hJ hG hY
  refine sl_enterIn HW rfl (n := 31) (fn := Tryz.f9) (c := itBody) Tryz.func9 rfl rfl (by simp) fun ac HF => ?_
  conv => arg 4; whnf
  refine wpIn_seq (wpIn_wide.2 (wp_region_lit ?_))
  refine sl_const HF rfl rfl (.inr rfl) (by decide) ?_; clear HF; intro _ HF
  have HF2 := HF.keep [0, 1, 3]
  simp only [pick, look, argL] at HF2
  refine wpList_nil (slIn_then (wpIn_block (wpIn_loop (ItI l G lp Bs J W) (fun ac _ => l.length - (intOf (ac.eval (.tmp 3))).toNat) ⟨0, [], HF2, Nat.zero_le _, rfl, h0, hc, Nat.le_refl _⟩ ?_)))
  clear HF HF2 h0 hc
  rintro ac2 w2 ⟨p, pre, HF, hp, hst, hj, hb, hws⟩
  have HMU := Lib.hid (show l.length - (intOf ((ac2.tmps[3]?).getD undef)).toNat = l.length - p by rw [HF.see 3 rfl]; simp [intOf])
  have HST := Lib.hid hst
  have HJJ := Lib.hid hj
  have HB := Lib.hid hb
  have hcs := hb.cell 0
  simp only [List.getElem?_toArray, List.getElem?_cons_zero] at hcs
  have h4000 : decide ((l.length : Int) ≤ 4000) = true := by simp; omega
  clear hst hj hb
  refine wpIn_seq (wpIn_seq (wpIn_wide.2 (wp_region_lit ?_)))
  refine sl_op HF rfl rfl (by decide) ?_; intro K hK; have e1 := HF.see 1 rfl; go_wp2_with fail; clear e1 HF; intro _ HF
  refine sl_op HF rfl rfl (by decide) ?_; intro K hK; have e7 := HF.see 7 rfl; go_wp2_with fail; clear e7 HF; intro _ HF
  refine sl_op HF rfl rfl (by decide) ?_; intro K hK; have e8 := HF.see 8 rfl; go_wp2_with fail; clear e8 HF; intro _ HF
  refine wpList_nil (slIn_then (wpIn_cond_true (HF.at 9 rfl) (wpIn_skip (slIn_then (wpIn_block (wpIn_seq (wpIn_wide.2 (wp_region_lit ?_))))))))
  have HNX := Lib.hid (scNext_any l p (by omega) hp w2)
  refine sl_op HF rfl rfl (by decide) ?_; intro K hK; have e1 := HF.see 1 rfl; go_wp2_with fail; clear e1 HF; intro _ HF
  refine sl_move HF rfl rfl (.inl rfl) (by decide) rfl ?_; clear HF; intro _ HF
  refine sl_op HF rfl rfl (by decide) ?_; intro K hK; have e11 := HF.see 11 rfl; have e12 := HF.see 12 rfl; go_wp2_with fail
  refine HNX.out.mono ?_
  rintro e w3 ⟨t, k, rfl, htk, hm3⟩
  have HB3 := Lib.hid (HB.out.keep hm3 id)
  have HJ3 := Lib.hid (HJ.out pre w2 w3 none HJJ.out hm3.grown (fun r h => by cases h))
  have HM3 := Lib.hid hm3
  clear hm3 HNX HB HJJ hcs
  obtain ⟨ok, hok⟩ : ∃ ok, (nxtL (l.drop p)).2.isSome = ok := ⟨_, rfl⟩
  obtain ⟨m, hmm⟩ : ∃ m, (nxtL (l.drop p)).1 = m := ⟨_, rfl⟩
  have HNL := Lib.hid (show nxtL (l.drop p) = (m, if ok then some (t, k) else none) by
    rw [← hmm, ← hok]
    rcases h : nxtL (l.drop p) with ⟨m', _ | x⟩
    · rfl
    · rw [h] at htk
      rw [htk x rfl]
      rfl)
  rw [hok, hmm]
  obtain ⟨pm, hpm⟩ : ∃ pm, p + m = pm := ⟨_, rfl⟩
  obtain ⟨p2, hp2⟩ : ∃ p2, pm + k = p2 := ⟨_, rfl⟩
  rw [hpm, hp2]
  have HPM := Lib.hid (And.intro hpm hp2)
  have HEQ := Lib.hid (show tokV t pm = .agg #[.int .i64 t.kind, .string (str t.text), .int .i64 t.n, .int .i64 (pm : Nat)] from rfl)
  rw [HEQ.out]
  clear hok hmm htk hpm hp2
  go_wp2_with fail; clear e11 e12 HF; intro _ HF
  refine sl_move HF rfl rfl (.inl rfl) (by decide) rfl ?_; clear HF; intro _ HF
  refine sl_op HF rfl rfl (by decide) ?_; intro K hK; have e10 := HF.see 10 rfl; go_wp2_with fail; clear e10 HF; intro _ HF
  refine sl_op HF rfl rfl (by decide) ?_; intro K hK; have e10 := HF.see 10 rfl; go_wp2_with fail; clear e10 HF; intro _ HF
  refine sl_op HF rfl rfl (by decide) ?_; intro K hK; have e10 := HF.see 10 rfl; go_wp2_with fail; clear e10 HF; intro _ HF
  refine sl_op HF rfl rfl (by decide) ?_; intro K hK; go_wp2_with fail; clear HF; intro _ HF
  have hz : Blk (w3.alloc (.cells tok0 30)) w3.heap.size 30 tok0 := Blk.new _ _ _
  obtain ⟨hk0, hk1, hk2, hk3, hf0, hf1, hf2, hf3⟩ := tok_facts hz
  unfold tok0 at hk0 hk1 hk2 hk3 hf0 hf1 hf2 hf3
  refine sl_op0 HF rfl rfl ?_; intro K hK; have e4 := HF.see 4 rfl; have e14 := HF.see 14 rfl; go_wp2_with fail; clear e4 e14 HF; intro _ HF
  refine sl_move HF rfl rfl (.inr rfl) (by decide) rfl ?_; clear HF; intro _ HF
  refine sl_move HF rfl rfl (.inr rfl) (by decide) rfl ?_; clear HF; intro _ HF
  clear hz hk0 hk1 hk2 hk3 hf0 hf1 hf2 hf3
  have hb4 : Blk (w3.alloc (.cells #[.int .i64 t.kind, .string (str t.text), .int .i64 t.n, .int .i64 (pm : Nat)] 30)) w3.heap.size 30 #[.int .i64 t.kind, .string (str t.text), .int .i64 t.n, .int .i64 (pm : Nat)] := Blk.new _ _ _
  have hm4 := (Mod.refl Nil w3).alloc (.cells #[.int .i64 t.kind, .string (str t.text), .int .i64 t.n, .int .i64 (pm : Nat)] 30)
  refine wpList_nil (slIn_then (wpIn_seq (wpIn_seq (wpIn_region_lit ?_))))
  have HB4 := Lib.hid (HB3.out.keep hm4 id)
  have HJ4 := Lib.hid (HJ.out pre w3 _ none HJ3.out hm4.grown (fun r h => by cases h))
  have HT4 := Lib.hid hb4
  have hws4 : W.heap.size ≤ w3.heap.size := Nat.le_trans hws HM3.out.size
  have hl3 : w3.heap.size < (w3.alloc (.cells #[.int .i64 t.kind, .string (str t.text), .int .i64 t.n, .int .i64 (pm : Nat)] 30)).heap.size := by simp
  clear hb4 hm4 HB3 HJ3 HM3
  generalize w3.alloc (.cells #[.int .i64 t.kind, .string (str t.text), .int .i64 t.n, .int .i64 (pm : Nat)] 30) = w4 at HB4 HJ4 HT4 hl3 ⊢
  generalize w3.heap.size = g4 at HT4 HF hws4 hl3
  have t0 := HT4.out.cell 0
  have t1 := HT4.out.cell 1
  have t2 := HT4.out.cell 2
  have t3 := HT4.out.cell 3
  simp only [List.getElem?_toArray, List.getElem?_cons_zero, List.getElem?_cons_succ] at t0 t1 t2 t3
  rcases ok with _ | _
  · have HS0 := Lib.hid (show strW (l.drop p) p = [] by rw [strW_eq, HNL.out]; rfl)
    refine slIn_move HW HF rfl rfl (.inl rfl) (by decide) rfl ?_; clear HF; intro _ HF
    refine slIn_op HW HF rfl rfl rfl (by decide) ?_; intro K hK; have e17 := HF.see 17 rfl; go_wp2_with fail; clear e17 HF; intro _ HF
    refine slIn_move HW HF rfl rfl (.inl rfl) (by decide) rfl ?_; clear HF; intro _ HF
    refine slIn_skip HW HF rfl rfl rfl rfl (by decide) ?_; clear HF; intro _ HF
    refine slIn_skip HW HF rfl rfl rfl rfl (by decide) ?_; clear HF; intro _ HF
    refine slIn_skip HW HF rfl rfl rfl rfl (by decide) ?_; clear HF; intro _ HF
    refine slIn_skip HW HF rfl rfl rfl rfl (by decide) ?_; clear HF; intro _ HF
    refine slIn_op HW HF rfl rfl rfl (by decide) ?_; intro K hK; have e19 := HF.see 19 rfl; have e23 := HF.see 23 rfl; go_wp2_with fail; clear e19 e23 HF; intro _ HF
    refine slIn_move HW HF rfl rfl (.inl rfl) (by decide) rfl ?_; clear HF; intro _ HF
    refine slIn_skip HW HF rfl rfl rfl rfl (by decide) ?_; clear HF; intro _ HF
    refine slIn_skip HW HF rfl rfl rfl rfl (by decide) ?_; clear HF; intro _ HF
    refine slIn_skip HW HF rfl rfl rfl rfl (by decide) ?_; clear HF; intro _ HF
    refine slIn_op HW HF rfl rfl rfl (by decide) ?_; intro K hK; have e25 := HF.see 25 rfl; have e28 := HF.see 28 rfl; go_wp2_with fail; clear e25 e28 HF; intro _ HF
    refine slIn_nil (wpIn_cond_true (HF.at 29 rfl) (wpIn_ret ?_))
    dsimp only [Exit.then, Exit.inBlock]
    refine bodyPost_ret (results_none rfl _ _ _) HF.nd ⟨⟨_, rfl⟩, .inl ⟨pre, ?_, HJ4.out⟩⟩
    rw [HST.out, HS0.out, List.append_nil]
  · have HS1 := Lib.hid (show strW (l.drop p) p = if t.kind = 0 then [(t, pm)] else (t, pm) :: strW (l.drop p2) p2 by
      rw [strW_eq, HNL.out]
      simp only [if_true]
      rw [List.drop_drop, HPM.out.1, HPM.out.2, show p + (m + k) = p2 by rw [← HPM.out.2, ← HPM.out.1]; omega])
    have hpre : pre.length < (strW l 0).length := by
      rw [HST.out, List.length_append, HS1.out]
      split <;> simp
    obtain ⟨fn, tmps, assign, body, hy, hR⟩ := HY.out pre (t, pm) w4 HJ4.out hpre
    unfold encT at hy
    dsimp only at hy
    rw [HEQ.out] at hy
    have HR := Lib.hid hR
    clear hR hpre
    refine slIn_move HW HF rfl rfl (.inl rfl) (by decide) rfl ?_; clear HF; intro _ HF
    refine slIn_op HW HF rfl rfl rfl (by decide) ?_; intro K hK; have e17 := HF.see 17 rfl; go_wp2_with fail; clear e17 HF; intro _ HF
    refine slIn_move HW HF rfl rfl (.inl rfl) (by decide) rfl ?_; clear HF; intro _ HF
    refine slIn_want HW HF rfl rfl rfl rfl rfl (by decide) ?_; intro K hK; have e0 := HF.see 0 rfl; go_wp2_with fail; clear e0 HF; intro _ HF
    refine slIn_want HW HF rfl rfl rfl rfl rfl (by decide) ?_; intro K hK; have e4 := HF.see 4 rfl; go_wp2_with fail; clear e4 HF; intro _ HF
    refine slIn_wantR (d := 22) HF rfl rfl rfl (by decide) ?_
    intro K hK
    have e20 := HF.see 20 rfl
    have e21 := HF.see 21 rfl
    clear t0 t1 t2 t3
    gi_wp2_with fail
    refine ⟨(fun hd => by cases hd), HR.out.mono ?_⟩
    rintro e w5 (⟨rfl, hj5, hk5⟩ | ⟨rfl, hjx5⟩)
    · have HJ5 := Lib.hid hj5
      have HB5 := Lib.hid (hk5.blk HB4.out hBs)
      have hT5 := hk5.blk HT4.out (fun hg => by have := HG.out g4 hg; omega)
      have hws5 : W.heap.size ≤ w5.heap.size := by have := hk5.size; omega
      have t0 := hT5.cell 0
      simp only [List.getElem?_toArray, List.getElem?_cons_zero] at t0
      clear hj5 hk5 hT5 HR hy HY
      gi_wp2_with fail
      clear e20 e21 HF
      intro _ HF
      by_cases hk0 : t.kind = 0
      · have hq : ((t.kind : Int) == 0) = true := by simp [hk0]
        have HX := Lib.hid (show strW l 0 = pre ++ [(t, pm)] by rw [HST.out, HS1.out, if_pos hk0])
        refine slIn_want HW HF rfl rfl rfl rfl rfl (by decide) ?_; intro K hK; have e22 := HF.see 22 rfl; go_wp2_with fail; clear e22 HF; intro _ HF
        refine slIn_op HW HF rfl rfl rfl (by decide) ?_; intro K hK; have e19 := HF.see 19 rfl; have e23 := HF.see 23 rfl; go_wp2_with fail; clear e19 e23 HF; intro _ HF
        refine slIn_move HW HF rfl rfl (.inl rfl) (by decide) rfl ?_; clear HF; intro _ HF
        refine slIn_want HW HF rfl rfl rfl rfl rfl (by decide) ?_; intro K hK; have e4 := HF.see 4 rfl; go_wp2_with fail; clear e4 HF; intro _ HF
        refine slIn_want HW HF rfl rfl rfl rfl rfl (by decide) ?_; intro K hK; have e26 := HF.see 26 rfl; go_wp2_with fail; clear e26 HF; intro _ HF
        refine slIn_want HW HF rfl rfl rfl rfl rfl (by decide) ?_; intro K hK; have e27 := HF.see 27 rfl; go_wp2_with fail; clear e27 HF; intro _ HF
        refine slIn_op HW HF rfl rfl rfl (by decide) ?_; intro K hK; have e25 := HF.see 25 rfl; have e28 := HF.see 28 rfl; go_wp2_with fail; clear e25 e28 HF; intro _ HF
        refine slIn_nil (wpIn_cond_true (HF.at 29 rfl) (wpIn_ret ?_))
        dsimp only [Exit.then, Exit.inBlock]
        exact bodyPost_ret (results_none rfl _ _ _) HF.nd ⟨⟨_, rfl⟩, .inl (by rw [HX.out]; exact HJ5.out)⟩
      · have hq : ((t.kind : Int) == 0) = false := by simpa using hk0
        have HX := Lib.hid (show strW l 0 = (pre ++ [(t, pm)]) ++ strW (l.drop p2) p2 by rw [HST.out, HS1.out, if_neg hk0]; simp)
        have hk1 := (nxtL_end (d := l.drop p) (n := m) (t := t) (k := k) (by rw [HNL.out]; simp)).2.resolve_left hk0
        have hle := (nxtL_end (d := l.drop p) (n := m) (t := t) (k := k) (by rw [HNL.out]; simp)).1
        rw [List.length_drop] at hle
        have hp2 : p < p2 ∧ p2 ≤ l.length := by have := HPM.out; omega
        refine slIn_want HW HF rfl rfl rfl rfl rfl (by decide) ?_; intro K hK; have e22 := HF.see 22 rfl; go_wp2_with fail; clear e22 HF; intro _ HF
        refine slIn_op HW HF rfl rfl rfl (by decide) ?_; intro K hK; have e19 := HF.see 19 rfl; have e23 := HF.see 23 rfl; go_wp2_with fail; clear e19 e23 HF; intro _ HF
        refine slIn_move HW HF rfl rfl (.inl rfl) (by decide) rfl ?_; clear HF; intro _ HF
        refine slIn_want HW HF rfl rfl rfl rfl rfl (by decide) ?_; intro K hK; have e4 := HF.see 4 rfl; go_wp2_with fail; clear e4 HF; intro _ HF
        refine slIn_want HW HF rfl rfl rfl rfl rfl (by decide) ?_; intro K hK; have e26 := HF.see 26 rfl; go_wp2_with fail; clear e26 HF; intro _ HF
        refine slIn_want HW HF rfl rfl rfl rfl rfl (by decide) ?_; intro K hK; have e27 := HF.see 27 rfl; go_wp2_with fail; clear e27 HF; intro _ HF
        refine slIn_op HW HF rfl rfl rfl (by decide) ?_; intro K hK; have e25 := HF.see 25 rfl; have e28 := HF.see 28 rfl; go_wp2_with fail; clear e25 e28 HF; intro _ HF
        refine slIn_nil (wpIn_cond_false (HF.at 29 rfl) (wpIn_skip (slIn_then (wpIn_region_lit ?_))))
        refine slIn_move HW HF rfl rfl (.inl rfl) (by decide) rfl ?_; clear HF; intro _ HF
        refine slIn_move HW HF rfl rfl (.inr rfl) (by decide) rfl ?_; clear HF; intro _ HF
        have HF2 := HF.keep [0, 1, 3]
        simp only [pick, look] at HF2
        refine wpListIn_nil ?_
        show _ ∧ _
        refine ⟨⟨p2, _, HF2, hp2.2, HX.out, HJ5.out, HB5.out, hws5⟩, ?_⟩
        have e3 := HF2.see 3 rfl
        try simp only [Act.eval_tmp]
        rw [HMU.out, e3]
        simp only [intOf]
        omega
    · have HX := Lib.hid (show ∃ pre', pre' <+: strW l 0 ∧ Jx pre' w5 from ⟨_, by
        rw [HST.out, HS1.out]
        split
        · exact List.prefix_refl _
        · exact ⟨_, by rw [List.append_assoc]; rfl⟩, hjx5⟩)
      clear hjx5 HR hy HY
      gi_wp2_with fail
      clear e20 e21 HF
      intro _ HF
      refine slIn_want HW HF rfl rfl rfl rfl rfl (by decide) ?_; intro K hK; have e22 := HF.see 22 rfl; go_wp2_with fail; clear e22 HF; intro _ HF
      refine slIn_op HW HF rfl rfl rfl (by decide) ?_; intro K hK; have e19 := HF.see 19 rfl; have e23 := HF.see 23 rfl; go_wp2_with fail; clear e19 e23 HF; intro _ HF
      refine slIn_move HW HF rfl rfl (.inl rfl) (by decide) rfl ?_; clear HF; intro _ HF
      refine slIn_skip HW HF rfl rfl rfl rfl (by decide) ?_; clear HF; intro _ HF
      refine slIn_skip HW HF rfl rfl rfl rfl (by decide) ?_; clear HF; intro _ HF
      refine slIn_skip HW HF rfl rfl rfl rfl (by decide) ?_; clear HF; intro _ HF
      refine slIn_op HW HF rfl rfl rfl (by decide) ?_; intro K hK; have e25 := HF.see 25 rfl; have e28 := HF.see 28 rfl; go_wp2_with fail; clear e25 e28 HF; intro _ HF
      refine slIn_nil (wpIn_cond_true (HF.at 29 rfl) (wpIn_ret ?_))
      dsimp only [Exit.then, Exit.inBlock]
      exact bodyPost_ret (results_none rfl _ _ _) HF.nd ⟨⟨_, rfl⟩, .inr HX.out⟩
end Go.Proofs.YtefloadjolpgbaaGreatDoor

namespace Go.Proofs.YtefloadjolpgbaaGreatDoor
open Go.RowKit

set_option maxHeartbeats 400000 in
set_option maxRecDepth 100000 in
theorem rLetter_any (c : UInt8) (w : World) : Calls Tryz.prog 11 #[.int .u8 c.toNat] w fun e w' => e = .returned (.bool (letB c)) ∧ w = w' := by
  have h256 := u8_lt c
  go_enter Tryz.func11, Tryz.ntmps11
  go_wp2
  all_goals
    go_ret
    refine ⟨ret_bool ?_, rfl⟩
    rw [Bool.eq_iff_iff]
    simp [letB, smallB, largeB]
    try omega
set_option maxHeartbeats 400000 in
set_option maxRecDepth 100000 in
theorem rDigit_any (c : UInt8) (w : World) : Calls Tryz.prog 13 #[.int .u8 c.toNat] w fun e w' => e = .returned (.bool (digB c)) ∧ w = w' := by
  have h256 := u8_lt c
  go_enter Tryz.func13, Tryz.ntmps13
  go_wp2
  all_goals
    go_ret
    refine ⟨ret_bool ?_, rfl⟩
    rw [Bool.eq_iff_iff]
    simp [digB]
    try omega
set_option maxHeartbeats 400000 in
set_option maxRecDepth 100000 in
theorem r6Small_any (c : UInt8) (w : World) : Calls Tryz.prog 20 #[.int .u8 c.toNat] w fun e w' => e = .returned (.bool (smallB c)) ∧ w = w' := by
  have h256 := u8_lt c
  go_enter Tryz.func20, Tryz.ntmps20
  go_wp2
  all_goals
    go_ret
    refine ⟨ret_bool ?_, rfl⟩
    rw [Bool.eq_iff_iff]
    simp [smallB]
    try omega
set_option maxHeartbeats 400000 in
set_option maxRecDepth 100000 in
theorem r6Letter_any (c : UInt8) (w : World) : Calls Tryz.prog 33 #[.int .u8 c.toNat] w fun e w' => e = .returned (.bool (letB c)) ∧ w = w' := by
  have h256 := u8_lt c
  have HL := Lib.hid (show letB c = (smallB c || largeB c) from rfl)
  go_enter Tryz.func33, Tryz.ntmps33
  go_wp2_with fail
  refine (r6Small_any c _).mono ?_
  rintro e w2 ⟨rfl, rfl⟩
  rcases hs : smallB c with _ | _
  · go_wp2_with fail
    all_goals
      go_ret
      refine ⟨ret_bool ?_, rfl⟩
      rw [HL.out, hs, Bool.eq_iff_iff]
      simp [largeB]
      try omega
  · go_wp2_with fail
    go_ret
    exact ⟨ret_bool (by rw [HL.out, hs]; rfl), rfl⟩

theorem wrdL_step {d : List UInt8} {k : Nat} {c : UInt8} (hk : k ≤ wrdL d) (hc : d[k]? = some c) (h : letB c = true ∨ 0 < k ∧ digB c = true) : k + 1 ≤ wrdL d := by
  have hw : wrdB c = true := by
    unfold wrdB
    rcases h with h | h
    · rw [h]; rfl
    · rw [h.2]; simp
  cases d with
  | nil => simp at hc
  | cons x r =>
    rcases hx : letB x with _ | _
    · exfalso
      have h0 : wrdL (x :: r) = 0 := by rw [wrdL, hx]; rfl
      have : k = 0 := by omega
      subst this
      simp at hc
      subst hc
      rw [hx] at h
      rcases h with h | h
      · cases h
      · omega
    · have h0 : wrdL (x :: r) = runL wrdB (x :: r) := by rw [wrdL, hx]; rfl
      rcases Nat.lt_or_eq_of_le hk with h1 | h1
      · exact h1
      · exfalso
        rw [h0] at h1
        have := runL_end wrdB (x :: r) c (by rw [← h1]; exact hc)
        rw [hw] at this
        cases this
theorem wrdL_stop {d : List UInt8} {k : Nat} {c : UInt8} (hk : k ≤ wrdL d) (hc : d[k]? = some c) (h : letB c = false) (h2 : k = 0 ∨ digB c = false) : wrdL d = k := by
  cases d with
  | nil => simp at hc
  | cons x r =>
    rcases Nat.lt_or_eq_of_le hk with h1 | h1
    · exfalso
      rcases hx : letB x with _ | _
      · have h0 : wrdL (x :: r) = 0 := by rw [wrdL, hx]; rfl
        omega
      · have h0 : wrdL (x :: r) = runL wrdB (x :: r) := by rw [wrdL, hx]; rfl
        rcases h2 with h2 | h2
        · subst h2
          simp at hc
          subst hc
          rw [hx] at h
          cases h
        · have := runL_all wrdB (x :: r) k c (by omega) hc
          unfold wrdB at this
          rw [h, h2] at this
          cases this
    · exact h1.symm

set_option maxHeartbeats 1600000 in
set_option maxRecDepth 100000 in
theorem rWord_any (l : List UInt8) (a : Nat) (hl : l.length ≤ 100000) (ha : a ≤ l.length) (w : World) : Calls Tryz.prog 12 #[.string (str l), .int .i64 a] w fun e w' => e = .returned (.int .i64 (a + wrdL (l.drop a) : Nat)) ∧ w = w' := by
  have hsz := str_size l
  have hwl := wrdL_le (l.drop a)
  rw [List.length_drop] at hwl
  obtain ⟨n, hn⟩ : ∃ n, n = wrdL (l.drop a) := ⟨_, rfl⟩
  rw [← hn] at hwl
  have HN := Lib.hid hn
  rw [← hn]
  clear hn
  go_enter Tryz.func12, Tryz.ntmps12
  go_wp2_with fail
  go_loopw [5] (fun v wr => ∃ k : Nat, v = .int .i64 (a + k : Nat) ∧ k ≤ n ∧ w = wr) (fun v _ => l.length - (intOf v).toNat)
  case atStart => exact ⟨0, rfl, Nat.zero_le _, rfl⟩
  case round =>
    obtain ⟨k, rfl, hk, rfl⟩ := hrel
    by_cases hlt : a + k < l.length
    · obtain ⟨c, hc⟩ : ∃ c, l[a + k]? = some c := ⟨_, List.getElem?_eq_getElem hlt⟩
      have hg := str_getE hc (by omega)
      have hd : (l.drop a)[k]? = some c := by rw [List.getElem?_drop]; exact hc
      have HD := Lib.hid hd
      clear hc hd
      go_wp2_with fail
      refine (rLetter_any c _).mono ?_
      rintro e w2 ⟨rfl, rfl⟩
      rcases hlet : letB c with _ | _
      · by_cases hk0 : k = 0
        · have HX := Lib.hid (show n = 0 by rw [HN.out]; exact (wrdL_stop (by rw [← HN.out]; exact hk) HD.out hlet (.inl hk0)).trans hk0)
          subst hk0
          clear hlet
          go_wp2_with fail
          go_ret
          exact ⟨ret_int (by rw [HX.out]; first | done | simp), rfl⟩
        · have hgt : decide (a < a + k) = true := by simp; omega
          have hgt2 : (0 : Nat) < k := by omega
          go_wp2_with fail
          refine (rDigit_any c _).mono ?_
          rintro e w3 ⟨rfl, rfl⟩
          rcases hdg : digB c with _ | _
          · have HX := Lib.hid (show n = k by rw [HN.out]; exact wrdL_stop (by rw [← HN.out]; exact hk) HD.out hlet (.inr hdg))
            go_wp2_with fail
            go_ret
            exact ⟨ret_int (by rw [HX.out] <;> simp), rfl⟩
          · have HX := Lib.hid (show k + 1 ≤ n by rw [HN.out]; exact wrdL_step (by rw [← HN.out]; exact hk) HD.out (.inr ⟨hgt2, hdg⟩))
            go_wp2_with fail
            refine ⟨⟨k + 1, ?_, HX.out, trivial⟩, ?_⟩
            · simp <;> omega
            · simp [intOf]
              omega
      · have HX := Lib.hid (show k + 1 ≤ n by rw [HN.out]; exact wrdL_step (by rw [← HN.out]; exact hk) HD.out (.inl hlet))
        go_wp2_with fail
        refine ⟨⟨k + 1, ?_, HX.out, trivial⟩, ?_⟩
        · simp <;> omega
        · simp [intOf]
          omega
    · have HX := Lib.hid (show n = k by omega)
      go_wp2_with fail
      go_ret
      exact ⟨ret_int (by rw [HX.out] <;> simp), rfl⟩
end Go.Proofs.YtefloadjolpgbaaGreatDoor
