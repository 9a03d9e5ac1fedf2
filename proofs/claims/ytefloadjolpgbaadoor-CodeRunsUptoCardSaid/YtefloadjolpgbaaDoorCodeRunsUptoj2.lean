/- Parts of the proof of CodeRunsUpto, joined: Flow5 Ab2 Appd. -/
import Derived.Test.YtefloadjolpgbaaDoorCodeRunsUptoj1
namespace Go.Proofs.YtefloadjolpgbaaDoor
open Go.RowKit

/-- An operation's kind: a quiet one (behind so many writing ones at the least, so many at the most), or the writing one of this number. -/
inductive OpK where
  | quiet (lo hi : Nat)
  | writes (m : Nat)

def OpK.level : OpK → Nat
  | .quiet lo _ => lo
  | .writes m => m + 1
def OpK.bound : OpK → Nat
  | .quiet _ hi => hi
  | .writes m => m
def OpK.wnum : OpK → Option Nat
  | .quiet _ _ => none
  | .writes m => some m

abbrev Hist := Nat → Value
def upd (h : Hist) (m : Nat) (v : Value) : Hist := fun i => if i = m then v else h i
theorem upd_same (h : Hist) (m : Nat) (v : Value) : upd h m v m = v := by simp [upd]
theorem upd_ne (h : Hist) {m i : Nat} (v : Value) (e : i ≠ m) : upd h m v i = h i := by simp [upd, e]

/-- An operation waits for the one that writes a slot. -/
def edgeTo (ops : Array Oper) (o : Oper) (t : Tmp) : Bool :=
  o.after.toList.any fun e => Region.binds .any e && match ops[e.on]? with
    | some o' => match o'.dst with
      | some d => Nat.beq d t
      | none => false
    | none => false
theorem edgeTo_some {ops : Array Oper} {o : Oper} {t : Tmp} (h : edgeTo ops o t = true) : ∃ e ∈ o.after, Region.binds .any e = true ∧ (ops[e.on]?).bind (·.dst) = some t := by
  unfold edgeTo at h
  rw [List.any_eq_true] at h
  obtain ⟨e, he, hb⟩ := h
  rw [Bool.and_eq_true] at hb
  refine ⟨e, Array.mem_toList_iff.1 he, hb.1, ?_⟩
  have hb2 := hb.2
  rcases h1 : ops[e.on]? with _ | o'
  · rw [h1] at hb2; cases hb2
  · rw [h1] at hb2
    simp only at hb2
    rcases h2 : o'.dst with _ | d
    · rw [h2] at hb2; cases hb2
    · rw [h2] at hb2
      simp only at hb2
      rw [Option.bind_some, h2, Nat.eq_of_beq_eq_true hb2]
/-- The region's form. -/
def planOk (ops : Array Oper) (ds : List (Option Tmp)) (ks : List OpK) (N n : Nat) : Bool :=
  (ops.toList.map (·.dst) == ds) && (ds.filterMap id).all (· < n) && decide (ds.filterMap id).Nodup && (ks.length == ops.size) && (ks.filterMap (·.wnum) == List.range N) &&
  (ops.toList.zip ks).zipIdx.all fun ((o, kd), i) =>
    (o.after.toList.all fun e => !Region.binds .any e || e.on < i) &&
    ((o.looksAt ops).all fun t => !ds.contains (some t) || edgeTo ops o t || ops.toList.all fun o' => (match o'.dst with | some d => !Nat.beq d t | none => true) || o'.after.toList.any fun e => Region.binds .any e && e.on == i) &&
    (match o.guard with | none => true | some (j, _) => ((ops[j]?).bind (·.dst)).isSome) &&
    (match kd with
     | .writes 0 => true
     | .writes (m + 1) => o.after.toList.any fun e => Region.binds .any e && (match ks[e.on]? with | some k => decide (m + 1 ≤ k.level) | none => false)
     | .quiet lo hi =>
       (lo == 0 || o.after.toList.any fun e => Region.binds .any e && (match ks[e.on]? with | some k => decide (lo ≤ k.level) | none => false)) &&
       (decide (N ≤ hi) || (ops.toList.zip ks).zipIdx.any fun ((o', k'), j) => decide (i < j) && decide (k'.bound ≤ hi) && o'.after.toList.any fun e => Region.binds .any e && e.on == i))

/-- What a slot holds, as far as it is known: of the region's own what is told of it, of another what was known. -/
def valOf (L : List (Tmp × Value)) (h : Hist) (t : Tmp) : List (Option Tmp) → List (Hist → Value) → Option Value
  | d :: ds, f :: fs => match d with
    | some d => match Nat.beq d t with
      | true => some (f h)
      | false => valOf L h t ds fs
    | none => valOf L h t ds fs
  | _, _ => look L t

/-- What an operation sees in a slot: what the region has written there, if it waits for that; else what was there. -/
def seeOf (ops : Array Oper) (o : Oper) (L : List (Tmp × Value)) (h : Hist) (t : Tmp) (ds : List (Option Tmp)) (fs : List (Hist → Value)) : Option Value :=
  match edgeTo ops o t with
  | true => valOf L h t ds fs
  | false => look L t

def Seen5 (ops : Array Oper) (o : Oper) (ds : List (Option Tmp)) (fs : List (Hist → Value)) (L : List (Tmp × Value)) (h : Hist) (a : Act) : List Tmp → Prop
  | [] => True
  | t :: r => (∀ v, seeOf ops o L h t ds fs = some v → a.eval (.tmp t) = v) ∧ Seen5 ops o ds fs L h a r

theorem Seen5.at {ops : Array Oper} {o : Oper} {ds : List (Option Tmp)} {fs : List (Hist → Value)} {L : List (Tmp × Value)} {h : Hist} {a : Act} : ∀ {ts : List Tmp}, Seen5 ops o ds fs L h a ts → ∀ (t : Tmp) {v : Value}, ts.contains t = true → seeOf ops o L h t ds fs = some v → a.eval (.tmp t) = v
  | [], _, t, _, e, _ => by simp at e
  | s :: r, ⟨h1, h2⟩, t, v, e, hv => by
    by_cases hst : t = s
    · subst hst
      exact h1 v hv
    · refine Seen5.at h2 t ?_ hv
      simp [hst] at e
      simpa using e

theorem Act.eval_tmp (a : Act) (t : Tmp) : a.eval (.tmp t) = (a.tmps[t]?).getD undef := by
  simp [Act.eval]
theorem Seen5.see {ops : Array Oper} {o : Oper} {ds : List (Option Tmp)} {fs : List (Hist → Value)} {L : List (Tmp × Value)} {h : Hist} {a : Act} {ts : List Tmp} (hk : Seen5 ops o ds fs L h a ts) (t : Tmp) {v : Value} (e : ts.contains t = true) (hv : seeOf ops o L h t ds fs = some v) : (a.tmps[t]?).getD undef = v := by
  rw [← Act.eval_tmp]
  exact hk.at t e hv
theorem Sl.see {n : Nat} {L : List (Tmp × Value)} {a : Act} (h : Sl n L a) (t : Tmp) {v : Value} (e : look L t = some v) : (a.tmps[t]?).getD undef = v := by
  rw [← Act.eval_tmp]
  exact h.at t e

section
variable {P : Program}

/-- What is asked of one operation. -/
def Ob (P : Program) (ops : Array Oper) (ds : List (Option Tmp)) (fs : List (Hist → Value)) (L : List (Tmp × Value)) (Ph : Nat → Hist → World → Prop) (Q : Exit → Act → World → Prop) : OpK → (Hist → Value) → Oper → Prop
  | .quiet lo hi, f, o => (∀ h h' : Hist, (∀ i, i < lo → h i = h' i) → f h = f h') ∧ ∀ a w h k, lo ≤ k → k ≤ hi → Ph k h w → Seen5 ops o ds fs L h a (o.looksAt ops) →
    match o.guard with
    | none => o.wp P a w (fun a' w' => a' = a.put o.dst (f h) ∧ Ph k h w') Q
    | some (j, want) =>
      (a.eval (.tmp (((ops[j]?).bind (·.dst)).getD 0)) = .bool want → o.wp P a w (fun a' w' => a' = a.put o.dst (f h) ∧ Ph k h w') Q) ∧
      (a.eval (.tmp (((ops[j]?).bind (·.dst)).getD 0)) ≠ .bool want → f h = undef)
  | .writes m, f, o => f = (fun h => h m) ∧ ∀ a w h, Ph m h w → Seen5 ops o ds fs L h a (o.looksAt ops) →
    (match o.guard with | none => True | some (j, want) => a.eval (.tmp (((ops[j]?).bind (·.dst)).getD 0)) = .bool want) ∧
    o.wp P a w (fun a' w' => ∃ v, a' = a.put o.dst v ∧ Ph (m + 1) (upd h m v) w') Q

def Obs (P : Program) (ops : Array Oper) (ds : List (Option Tmp)) (fs : List (Hist → Value)) (L : List (Tmp × Value)) (Ph : Nat → Hist → World → Prop) (Q : Exit → Act → World → Prop) : List OpK → List (Hist → Value) → List Oper → Prop
  | k :: ks, f :: fs', o :: os => Ob P ops ds fs L Ph Q k f o ∧ Obs P ops ds fs L Ph Q ks fs' os
  | [], [], [] => True
  | _, _, _ => False

theorem obs_at {ops : Array Oper} {ds : List (Option Tmp)} {fs : List (Hist → Value)} {L : List (Tmp × Value)} {Ph : Nat → Hist → World → Prop} {Q : Exit → Act → World → Prop} :
    ∀ (ks : List OpK) (fs' : List (Hist → Value)) (os : List Oper), Obs P ops ds fs L Ph Q ks fs' os → ∀ (i : Nat) (o : Oper) (k : OpK), os[i]? = some o → ks[i]? = some k → ∃ f, fs'[i]? = some f ∧ Ob P ops ds fs L Ph Q k f o
  | k :: ks, f :: fs', o :: os, h, 0, o', k', ho, hk => by
    simp at ho hk
    subst ho hk
    exact ⟨f, rfl, h.1⟩
  | k :: ks, f :: fs', o :: os, h, i + 1, o', k', ho, hk => by
    simp at ho hk
    obtain ⟨f', h1, h2⟩ := obs_at ks fs' os h.2 i o' k' ho hk
    exact ⟨f', by simpa using h1, h2⟩
  | [], [], [], _, i, o', k', ho, _ => by simp at ho
  | [], [], _ :: _, h, _, _, _, _, _ => h.elim
  | [], _ :: _, _, h, _, _, _, _, _ => h.elim
  | _ :: _, [], _, h, _, _, _, _, _ => h.elim
  | _ :: _, _ :: _, [], h, _, _, _, _, _ => h.elim

theorem valOf_in {L : List (Tmp × Value)} {h : Hist} {t : Tmp} : ∀ (ds : List (Option Tmp)) (fs : List (Hist → Value)) (i : Nat) (f : Hist → Value), (ds.filterMap id).Nodup → ds[i]? = some (some t) → fs[i]? = some f → valOf L h t ds fs = some (f h)
  | [], _, i, f, _, hd, _ => by simp at hd
  | _ :: _, [], i, f, _, _, hf => by simp at hf
  | d :: ds, g :: fs, 0, f, _, hd, hf => by
    simp at hd hf
    subst hd hf
    simp [valOf]
  | d :: ds, g :: fs, i + 1, f, hn, hd, hf => by
    simp at hd hf
    cases d with
    | none => exact valOf_in ds fs i f (by simpa using hn) hd hf
    | some d =>
      rw [List.filterMap_cons_some (f := _root_.id) (a := some d) (b := d) rfl, List.nodup_cons] at hn
      have hne : d ≠ t := fun e => by
        subst e
        refine hn.1 (List.mem_filterMap.2 ⟨some d, List.mem_of_getElem? hd, rfl⟩)
      have hb : Nat.beq d t = false := by
        rcases hb : Nat.beq d t with _ | _
        · rfl
        · exact absurd (Nat.eq_of_beq_eq_true hb) hne
      simp only [valOf, hb]
      exact valOf_in ds fs i f hn.2 hd hf
theorem valOf_out {L : List (Tmp × Value)} {h : Hist} {t : Tmp} : ∀ (ds : List (Option Tmp)) (fs : List (Hist → Value)), some t ∉ ds → valOf L h t ds fs = look L t
  | [], _, _ => by simp [valOf]
  | _ :: _, [], _ => by simp [valOf]
  | d :: ds, g :: fs, hn => by
    simp only [List.mem_cons, not_or] at hn
    cases d with
    | none => exact valOf_out ds fs hn.2
    | some d =>
      have hb : Nat.beq d t = false := by
        rcases hb : Nat.beq d t with _ | _
        · rfl
        · exact absurd (by rw [Nat.eq_of_beq_eq_true hb]) hn.1
      simp only [valOf, hb]
      exact valOf_out ds fs hn.2

/-- The slots' values behind the region, ahead of what was known. -/
def laid5 (h : Hist) (L : List (Tmp × Value)) : List (Option Tmp) → List (Hist → Value) → List (Tmp × Value)
  | some d :: ds, f :: fs => (d, f h) :: laid5 h L ds fs
  | none :: ds, _ :: fs => laid5 h L ds fs
  | _, _ => L
theorem look_laid5 {L : List (Tmp × Value)} {h : Hist} {t : Tmp} : ∀ (ds : List (Option Tmp)) (fs : List (Hist → Value)), look (laid5 h L ds fs) t = valOf L h t ds fs
  | [], _ => by simp [laid5, valOf]
  | some d :: ds, [] => by simp [laid5, valOf]
  | none :: ds, [] => by simp [laid5, valOf]
  | some d :: ds, f :: fs => by
    simp only [laid5, valOf, look]
    cases Nat.beq d t
    · exact look_laid5 ds fs
    · rfl
  | none :: ds, f :: fs => by
    simp only [laid5, valOf]
    exact look_laid5 ds fs

structure Inv5 (ops : Array Oper) (ks : List OpK) (fs : List (Hist → Value)) (N : Nat) (Ph : Nat → Hist → World → Prop) (a0 : Act) (listed : Array Bool) (a : Act) (w : World) (k : Nat) (h : Hist) : Prop where
  lsize : listed.size = ops.size
  defers : a.defers = a0.defers
  size : a.tmps.size = a0.tmps.size
  out : ∀ t, (∀ j o, ops[j]? = some o → o.dst = some t → listed.getD j false = false) → a.eval (.tmp t) = a0.eval (.tmp t)
  inn : ∀ j o t f, ops[j]? = some o → fs[j]? = some f → o.dst = some t → listed.getD j false = true → a.eval (.tmp t) = f h
  kN : k ≤ N
  num : ∀ i m, ks[i]? = some (.writes m) → (listed.getD i false = true ↔ m < k)
  down : ∀ i o, ops[i]? = some o → listed.getD i false = true → ∀ e ∈ o.after, Region.binds .any e = true → listed.getD e.on false = true
  ph : Ph k h w

theorem sl_flow5 {id n N : Nat} {L : List (Tmp × Value)} {a0 : Act} {ops : List Oper} {w : World} {Q : Exit → Act → World → Prop}
    (ds : List (Option Tmp)) (ks : List OpK) (Ph : Nat → Hist → World → Prop) (fs : List (Hist → Value)) (hs : Sl n L a0) (hm : P.follows .mixedOrders = true) (hok : planOk ops.toArray ds ks N n = true) (hfl : fs.length = ks.length)
    (h0 : ∀ h, Ph 0 h w.drew) (hobs : Obs P ops.toArray ds fs L Ph Q ks fs ops)
    (hfin : ∀ w' a' h, Ph N h w' → Sl n (laid5 h L ds fs) a' → Q .normal a' w') :
    (Code.region id ops.toArray true).wp P Q a0 w := by
  refine wp_region_any hm ?_
  generalize hA : ops.toArray = opsA at *
  have hAl : ∀ i : Nat, opsA[i]? = ops[i]? := fun i => by rw [← hA]; simp
  have hL : opsA.toList = ops := by rw [← hA]
  clear hA
  simp only [planOk, Bool.and_eq_true, beq_iff_eq, decide_eq_true_eq, List.all_eq_true] at hok
  obtain ⟨⟨⟨⟨⟨hds, hlt⟩, hnd⟩, hkl⟩, hwr⟩, hform⟩ := hok
  rw [hL] at hds
  have dsAt : ∀ (i : Nat) (o : Oper), opsA[i]? = some o → ds[i]? = some o.dst := by
    intro i o ho
    rw [hAl] at ho
    rw [← hds, List.getElem?_map, ho]
    rfl
  have dsOf : ∀ (i : Nat) (t : Tmp), ds[i]? = some (some t) → ∃ o, opsA[i]? = some o ∧ o.dst = some t := by
    intro i t hi
    rw [← hds, List.getElem?_map] at hi
    obtain ⟨o, ho, hd⟩ := Option.map_eq_some_iff.1 hi
    exact ⟨o, by rw [hAl]; exact ho, hd⟩
  have form : ∀ (i : Nat) (o : Oper) (kd : OpK), opsA[i]? = some o → ks[i]? = some kd → (∀ e ∈ o.after, Region.binds .any e = true → e.on < i) ∧
      (∀ t ∈ o.looksAt opsA, some t ∈ ds → edgeTo opsA o t = true ∨ ∀ (j : Nat) (o' : Oper), opsA[j]? = some o' → o'.dst = some t → ∃ e ∈ o'.after, Region.binds .any e = true ∧ e.on = i) ∧ (∀ j b, o.guard = some (j, b) → ((opsA[j]?).bind (·.dst)).isSome = true) ∧
      (∀ m, kd = .writes (m + 1) → ∃ e ∈ o.after, Region.binds .any e = true ∧ ∃ k', ks[e.on]? = some k' ∧ m + 1 ≤ k'.level) ∧
      (∀ lo hi, kd = .quiet lo hi → (lo = 0 ∨ ∃ e ∈ o.after, Region.binds .any e = true ∧ ∃ k', ks[e.on]? = some k' ∧ lo ≤ k'.level) ∧
        (N ≤ hi ∨ ∃ (j : Nat) (o' : Oper) (k' : OpK), opsA[j]? = some o' ∧ ks[j]? = some k' ∧ i < j ∧ k'.bound ≤ hi ∧ ∃ e ∈ o'.after, Region.binds .any e = true ∧ e.on = i)) := by
    intro i o kd ho hk
    have hz : (opsA.toList.zip ks)[i]? = some (o, kd) := by
      rw [List.getElem?_zip_eq_some]
      exact ⟨by rw [Array.getElem?_toList]; exact ho, hk⟩
    have hmem : ((o, kd), i) ∈ (opsA.toList.zip ks).zipIdx := by
      rw [List.mk_mem_zipIdx_iff_getElem?]
      exact hz
    have hf := hform _ hmem
    simp only [Bool.and_eq_true, Bool.or_eq_true, Bool.not_eq_true', decide_eq_true_eq, List.any_eq_true, beq_iff_eq] at hf
    obtain ⟨⟨⟨h1, h2⟩, h3⟩, h4⟩ := hf
    refine ⟨fun e he hb => ?_, fun t ht htD => ?_, fun j b hg => ?_, fun m hm => ?_, fun lo hi hq => ?_⟩
    · rcases h1 e (Array.mem_toList_iff.2 he) with h' | h'
      · rw [hb] at h'; cases h'
      · exact h'
    · rcases h2 t ht with h' | h'
      · rcases h' with h' | h'
        · have : ds.contains (some t) = true := List.contains_iff_mem.2 htD
          rw [this] at h'; cases h'
        · exact .inl h'
      · refine .inr fun j o' ho' hd' => ?_
        rw [List.all_eq_true] at h'
        have hx := h' o' (by rw [Array.mem_toList_iff]; exact Array.mem_of_getElem? ho')
        rw [hd'] at hx
        have hbt : Nat.beq t t = true := Nat.beq_refl t
        simp only [hbt, Bool.not_true, Bool.false_or, List.any_eq_true, Bool.and_eq_true, beq_iff_eq] at hx
        obtain ⟨e, he, hb, hon⟩ := hx
        exact ⟨e, Array.mem_toList_iff.1 he, hb, hon⟩
    · rw [hg] at h3
      exact h3
    · subst hm
      simp only [List.any_eq_true, Bool.and_eq_true] at h4
      obtain ⟨e, he, hb, hw⟩ := h4
      refine ⟨e, Array.mem_toList_iff.1 he, hb, ?_⟩
      rcases hke : ks[e.on]? with _ | kk
      · rw [hke] at hw; cases hw
      · rw [hke] at hw
        exact ⟨kk, rfl, by simpa using hw⟩
    · subst hq
      simp only [Bool.and_eq_true, Bool.or_eq_true, beq_iff_eq, decide_eq_true_eq, List.any_eq_true] at h4
      refine ⟨?_, ?_⟩
      · rcases h4.1 with h' | ⟨e, he, hb, hw⟩
        · exact .inl h'
        · refine .inr ⟨e, Array.mem_toList_iff.1 he, hb, ?_⟩
          rcases hke : ks[e.on]? with _ | kk
          · rw [hke] at hw; cases hw
          · rw [hke] at hw
            exact ⟨kk, rfl, by simpa using hw⟩
      · rcases h4.2 with h' | ⟨⟨⟨o', k'⟩, j⟩, hj, ⟨hij, hbd⟩, e, he, hb, hon⟩
        · exact .inl h'
        · rw [List.mk_mem_zipIdx_iff_getElem?, List.getElem?_zip_eq_some] at hj
          exact .inr ⟨j, o', k', by rw [← Array.getElem?_toList]; exact hj.1, hj.2, hij, hbd, e, Array.mem_toList_iff.1 he, hb, hon⟩
  have kAt : ∀ (i : Nat) (o : Oper), opsA[i]? = some o → ∃ kd, ks[i]? = some kd := by
    intro i o ho
    have := (Array.getElem?_eq_some_iff.1 ho).1
    exact ⟨_, List.getElem?_eq_getElem (by omega)⟩
  have uniq : ∀ (i j : Nat) (t : Tmp), ds[i]? = some (some t) → ds[j]? = some (some t) → i = j := by
    have key : ∀ (l : List (Option Tmp)), (l.filterMap _root_.id).Nodup → ∀ (i j : Nat) (t : Tmp), l[i]? = some (some t) → l[j]? = some (some t) → i = j := by
      intro l
      induction l with
      | nil => intro _ i j t h; simp at h
      | cons x l ih =>
        intro hn i j t hi hj
        have hn' : (l.filterMap _root_.id).Nodup := by
          cases hx : x with
          | none => rw [hx, List.filterMap_cons_none (f := _root_.id) (a := none) rfl] at hn; exact hn
          | some d => rw [hx, List.filterMap_cons_some (f := _root_.id) (a := some d) (b := d) rfl] at hn; exact (List.nodup_cons.1 hn).2
        have hno : ∀ (k : Nat), x = some t → l[k]? = some (some t) → False := by
          intro k hx hk
          rw [hx, List.filterMap_cons_some (f := _root_.id) (a := some t) (b := t) rfl] at hn
          exact (List.nodup_cons.1 hn).1 (List.mem_filterMap.2 ⟨_, List.mem_of_getElem? hk, rfl⟩)
        match i, j, hi, hj with
        | 0, 0, _, _ => rfl
        | 0, j + 1, hi, hj =>
          simp only [List.getElem?_cons_zero, Option.some.injEq] at hi
          simp only [List.getElem?_cons_succ] at hj
          exact (hno j hi hj).elim
        | i + 1, 0, hi, hj =>
          simp only [List.getElem?_cons_zero, Option.some.injEq] at hj
          simp only [List.getElem?_cons_succ] at hi
          exact (hno i hj hi).elim
        | i + 1, j + 1, hi, hj =>
          simp only [List.getElem?_cons_succ] at hi hj
          rw [ih hn' i j t hi hj]
    exact key ds hnd
  -- what is listed is of a level that has been reached; what is not listed holds the number down
  have lev : ∀ {listed : Array Bool} {a : Act} {w : World} {k : Nat} {h : Hist}, Inv5 opsA ks fs N Ph a0 listed a w k h → ∀ (i : Nat) (o : Oper) (kd : OpK), opsA[i]? = some o → ks[i]? = some kd → listed.getD i false = true → kd.level ≤ k := by
    intro listed a w k h inv i
    induction i using Nat.strongRecOn with
    | _ i ih =>
      intro o kd ho hk hl
      cases kd with
      | writes m => exact (inv.num i m hk).1 hl
      | quiet lo hi =>
        obtain ⟨hb1, _, _, _, hq⟩ := form i o _ ho hk
        rcases (hq lo hi rfl).1 with h0 | ⟨e, he, hb, k', hk', hle⟩
        · show lo ≤ k
          omega
        · have hon := hb1 e he hb
          have hle' := inv.down i o ho hl e he hb
          have : e.on < opsA.size := by have := (List.getElem?_eq_some_iff.1 hk').1; omega
          have := ih e.on hon _ _ (Array.getElem?_eq_getElem this) hk' hle'
          show lo ≤ k
          omega
  have bnd : ∀ {listed : Array Bool} {a : Act} {w : World} {k : Nat} {h : Hist}, Inv5 opsA ks fs N Ph a0 listed a w k h → ∀ (c i : Nat) (o : Oper) (kd : OpK), opsA.size ≤ c + i → opsA[i]? = some o → ks[i]? = some kd → listed.getD i false = false → k ≤ kd.bound := by
    intro listed a w k h inv c
    induction c with
    | zero =>
      intro i o kd hc ho _ _
      have := (Array.getElem?_eq_some_iff.1 ho).1
      omega
    | succ c ih =>
      intro i o kd hc ho hk hl
      cases kd with
      | writes m =>
        rcases Nat.lt_or_ge m k with hlt | hge
        · have := (inv.num i m hk).2 hlt
          rw [hl] at this; cases this
        · exact hge
      | quiet lo hi =>
        obtain ⟨_, _, _, _, hq⟩ := form i o _ ho hk
        rcases (hq lo hi rfl).2 with h0 | ⟨j, o', k', ho', hk', hij, hbd, e, he, hb, hon⟩
        · have := inv.kN
          show k ≤ hi
          omega
        · have hj : listed.getD j false = false := by
            rcases hlj : listed.getD j false with _ | _
            · rfl
            · have := inv.down j o' ho' hlj e he hb
              rw [hon, hl] at this; cases this
          have := ih j o' k' (by omega) ho' hk' hj
          show k ≤ hi
          omega
  -- where nothing may come up, all has
  have done_ : ∀ listed : Array Bool, listed.size = opsA.size → Region.ready .any opsA listed = [] → ∀ j, j < opsA.size → listed.getD j false = true := by
    intro listed hls hr j
    induction j using Nat.strongRecOn with
    | _ j ih =>
      intro hj
      by_cases hl : listed.getD j false = true
      · exact hl
      · exfalso
        have hmem : j ∈ Region.ready .any opsA listed := by
          refine mem_ready.2 ⟨?_, opsA[j], Array.getElem?_eq_getElem hj, fun e he hb => ?_⟩
          · have : j < listed.size := by omega
            simp [this] at hl ⊢
            exact hl
          · obtain ⟨kd, hkd⟩ := kAt j _ (Array.getElem?_eq_getElem hj)
            have hon := (form j _ kd (Array.getElem?_eq_getElem hj) hkd).1 e he hb
            exact ih e.on hon (by omega)
        rw [hr] at hmem
        cases hmem
  -- the end
  have fin_ : ∀ (listed : Array Bool) (a : Act) (w : World) (k : Nat) (h : Hist), Inv5 opsA ks fs N Ph a0 listed a w k h → (∀ j, j < opsA.size → listed.getD j false = true) → Q .normal a w := by
    intro listed a w k h inv hall
    have hkN : k = N := by
      have h1 := inv.kN
      rcases Nat.lt_or_ge k N with hlt | hge
      · exfalso
        have hmr : k ∈ ks.filterMap (·.wnum) := by rw [hwr]; exact List.mem_range.2 hlt
        obtain ⟨kd, hkd, hw⟩ := List.mem_filterMap.1 hmr
        obtain ⟨i, hi⟩ := List.getElem?_of_mem hkd
        cases kd with
        | quiet _ _ => cases hw
        | writes m =>
          simp only [OpK.wnum, Option.some.injEq] at hw
          subst hw
          have hil := (List.getElem?_eq_some_iff.1 hi).1
          have := (inv.num i _ hi).1 (hall i (by omega))
          omega
      · omega
    subst hkN
    refine hfin w a h inv.ph ⟨by rw [inv.size, hs.size], by rw [inv.defers, hs.nd], fun t v e => ?_⟩
    rw [look_laid5] at e
    by_cases htd : some t ∈ ds
    · obtain ⟨i, hi⟩ := List.getElem?_of_mem htd
      obtain ⟨o, ho, hd⟩ := dsOf i t hi
      have hil := (Array.getElem?_eq_some_iff.1 ho).1
      have hf : fs[i]? = some (fs[i]'(by omega)) := List.getElem?_eq_getElem _
      rw [valOf_in ds fs i _ hnd hi hf] at e
      injection e with e
      rw [← e]
      exact inv.inn i o t _ ho hf hd (hall i hil)
    · rw [valOf_out ds fs htd] at e
      rw [inv.out t fun j o ho hd => (htd (List.mem_iff_getElem?.2 ⟨j, by rw [dsAt j o ho, hd]⟩)).elim]
      exact hs.sees t v e
  have main : ∀ (fuel : Nat) (listed : Array Bool) (a : Act) (w : World) (k : Nat) (h : Hist), Inv5 opsA ks fs N Ph a0 listed a w k h → (∀ j, j < opsA.size → listed.getD j false = false → 0 < fuel) → listed.toList.count false ≤ fuel → wpAny P .any opsA Q fuel listed a w := by
    intro fuel
    induction fuel with
    | zero =>
      intro listed a w k h inv h0 hc
      have hall : ∀ j, j < opsA.size → listed.getD j false = true := by
        intro j hj
        by_cases hl : listed.getD j false = true
        · exact hl
        · exact absurd (h0 j hj (by simpa using hl)) (by omega)
      refine ⟨?_, fin_ listed a w k h inv hall⟩
      rcases hr : Region.ready .any opsA listed with _ | ⟨i, r⟩
      · rfl
      · exfalso
        have hi : i ∈ Region.ready .any opsA listed := by rw [hr]; simp
        obtain ⟨hl, o, ho, _⟩ := mem_ready.1 hi
        have hil : i < opsA.size := (Array.getElem?_eq_some_iff.1 ho).1
        have := hall i hil
        have hil' : i < listed.size := by rw [inv.lsize]; exact hil
        simp [hil'] at hl this
        rw [hl] at this
        cases this
    | succ fuel ih =>
      intro listed a w k h inv _ hc
      refine ⟨fun hr => fin_ listed a w k h inv (done_ listed inv.lsize hr), fun i hi => ?_⟩
      obtain ⟨hl, o, ho, hedges⟩ := mem_ready.1 hi
      have hio : i < opsA.size := (Array.getElem?_eq_some_iff.1 ho).1
      have hil : i < listed.size := by rw [inv.lsize]; exact hio
      have hlf : listed.getD i false = false := by simp [hil] at hl ⊢; exact hl
      obtain ⟨kd, hkd⟩ := kAt i o ho
      obtain ⟨hback, hlook, hguard, hwprev, _⟩ := form i o kd ho hkd
      obtain ⟨f, hf, hob⟩ := obs_at ks fs ops hobs i o kd (by rw [← hAl]; exact ho) hkd
      have hseen : Seen5 opsA o ds fs L h a (o.looksAt opsA) := by
        have key : ∀ ts : List Tmp, (∀ t ∈ ts, t ∈ o.looksAt opsA) → Seen5 opsA o ds fs L h a ts := by
          intro ts
          induction ts with
          | nil => intro _; trivial
          | cons t r ihr =>
            intro hts
            refine ⟨fun v e => ?_, ihr fun u hu => hts u (by simp [hu])⟩
            unfold seeOf at e
            by_cases hed : edgeTo opsA o t = true
            · obtain ⟨e', he', hb', hd'⟩ := edgeTo_some hed
              rw [hed] at e
              simp only at e
              obtain ⟨oj, hoj, hdj⟩ := Option.bind_eq_some_iff.1 hd'
              have hjl := (Array.getElem?_eq_some_iff.1 hoj).1
              have hfj : fs[e'.on]? = some (fs[e'.on]'(by omega)) := List.getElem?_eq_getElem _
              rw [valOf_in ds fs e'.on _ hnd (by rw [dsAt e'.on oj hoj, hdj]) hfj] at e
              injection e with e
              rw [← e]
              exact inv.inn e'.on oj t _ hoj hfj hdj (hedges e' he' hb')
            · have hed' : edgeTo opsA o t = false := by simpa using hed
              rw [hed'] at e
              simp only at e
              rw [inv.out t fun j oj hoj hdj => ?_]
              · exact hs.sees t v e
              · rcases hlook t (hts t (by simp)) (List.mem_iff_getElem?.2 ⟨j, by rw [dsAt j oj hoj, hdj]⟩) with h' | h'
                · exact absurd h' hed
                · obtain ⟨e', he', hb', hon'⟩ := h' j oj hoj hdj
                  rcases hlj : listed.getD j false with _ | _
                  · rfl
                  · have := inv.down j oj hoj hlj e' he' hb'
                    rw [hon', hlf] at this
                    cases this
        exact key _ fun t ht => ht
      have hcount : (listed.setIfInBounds i true).toList.count false ≤ fuel := by
        have e : listed.toList = listed.toList.take i ++ false :: listed.toList.drop (i + 1) := by
          have hi2 : i < listed.toList.length := by simpa using hil
          have hg : listed.toList[i] = false := by
            simp [hil] at hlf
            simpa using hlf
          rw [← hg]
          conv => lhs; rw [← List.take_append_drop i listed.toList, List.drop_eq_getElem_cons hi2]
        have e' : (listed.setIfInBounds i true).toList = listed.toList.take i ++ true :: listed.toList.drop (i + 1) := by
          rw [Array.toList_setIfInBounds, List.set_eq_take_append_cons_drop, if_pos (by simpa using hil)]
        rw [e] at hc
        rw [e']
        simp only [List.count_append, List.count_cons] at hc ⊢
        simp at hc ⊢
        omega
      -- the next state
      have step : ∀ v w' k' h', (kd = .writes k → k' = k + 1) → ((∀ m, kd ≠ .writes m) → k' = k) → (∀ i, i < k → h i = h' i) → f h' = v → Ph k' h' w' → (∀ m, kd = .writes m → m = k) → wpAny P .any opsA Q fuel (listed.setIfInBounds i true) (a.put o.dst v) w' := by
        intro v w' k' h' hk1 hk2 hh hv hPh hmk
        have hk'N : k' ≤ N := by
          cases hkk : kd with
          | quiet _ _ => rw [hk2 (fun m e => by rw [hkk] at e; cases e)]; exact inv.kN
          | writes m =>
            have hmk' := hmk m hkk
            subst hmk'
            rw [hk1 hkk]
            have : m ∈ ks.filterMap (·.wnum) := List.mem_filterMap.2 ⟨_, List.mem_of_getElem? hkd, by rw [hkk]; rfl⟩
            rw [hwr] at this
            exact List.mem_range.1 this
        have hinv : Inv5 opsA ks fs N Ph a0 (listed.setIfInBounds i true) (a.put o.dst v) w' k' h' := by
          refine ⟨by simp [inv.lsize], ?_, by rw [Act.size_put, inv.size], ?_, ?_, hk'N, ?_, ?_, hPh⟩
          · cases h : o.dst <;> simp [Act.put, inv.defers]
          · intro t ht
            cases hd : o.dst with
            | none =>
              refine inv.out t fun j oj hoj hdj => ?_
              have hji : i ≠ j := fun e => by
                subst e
                rw [ho] at hoj
                injection hoj with hoj
                subst hoj
                rw [hd] at hdj
                cases hdj
              have := ht j oj hoj hdj
              rwa [getD_set_other false hji] at this
            | some d =>
              have htd : d ≠ t := fun e => by
                subst e
                have := ht i o ho hd
                rw [getD_set_same false hil] at this
                cases this
              rw [Act.eval_put_ne _ htd]
              refine inv.out t fun j oj hoj hdj => ?_
              have hji : i ≠ j := fun e => by
                subst e
                rw [ho] at hoj
                injection hoj with hoj
                subst hoj
                rw [hd] at hdj
                injection hdj with hdj
                exact htd hdj
              have := ht j oj hoj hdj
              rwa [getD_set_other false hji] at this
          · intro j oj t fj hoj hfj hdj hlj
            by_cases hji : i = j
            · subst hji
              rw [ho] at hoj
              injection hoj with hoj
              subst hoj
              rw [hf] at hfj
              injection hfj with hfj
              subst hfj
              have hts : t < a.tmps.size := by
                rw [inv.size, hs.size]
                have : t ∈ ds.filterMap _root_.id := List.mem_filterMap.2 ⟨some t, List.mem_iff_getElem?.2 ⟨i, by rw [dsAt i o ho, hdj]⟩, rfl⟩
                exact hlt t this
              rw [hdj, Act.eval_put_same _ hts, hv]
            · rw [getD_set_other false hji] at hlj
              have hvj := inv.inn j oj t fj hoj hfj hdj hlj
              have hst : fj h' = fj h := by
                obtain ⟨kj, hkj⟩ := kAt j oj hoj
                obtain ⟨fj', hfj', hobj⟩ := obs_at ks fs ops hobs j oj kj (by rw [← hAl]; exact hoj) hkj
                rw [hfj] at hfj'
                injection hfj' with hfj'
                subst hfj'
                have hlv := lev inv j oj kj hoj hkj hlj
                cases kj with
                | quiet lo hi => exact (hobj.1 h h' fun i hi => hh i (Nat.lt_of_lt_of_le hi hlv)).symm
                | writes m =>
                  have := hobj.1
                  rw [this]
                  exact (hh m hlv).symm
              rw [hst]
              cases hd : o.dst with
              | none => exact hvj
              | some d =>
                have : d ≠ t := fun e => by
                  subst e
                  exact hji (uniq i j d (by rw [dsAt i o ho, hd]) (by rw [dsAt j oj hoj, hdj]))
                rw [Act.eval_put_ne _ this]
                exact hvj
          · intro j m hj
            by_cases hji : i = j
            · subst hji
              rw [hkd] at hj
              injection hj with hj
              have := hmk m hj
              subst this
              rw [getD_set_same false hil, hk1 hj]
              simp
            · rw [getD_set_other false hji, inv.num j m hj]
              cases hkk : kd with
              | quiet _ _ => rw [hk2 (fun m e => by rw [hkk] at e; cases e)]
              | writes m' =>
                have := hmk m' hkk
                subst this
                rw [hk1 hkk]
                have hne : m ≠ m' := fun e => by
                  subst e
                  have hnd' : (ks.filterMap (·.wnum)).Nodup := by rw [hwr]; exact List.nodup_range
                  have key : ∀ (l : List OpK), (l.filterMap (·.wnum)).Nodup → ∀ i j : Nat, l[i]? = some (.writes m) → l[j]? = some (.writes m) → i = j := by
                    intro l
                    induction l with
                    | nil => intro _ i j h; simp at h
                    | cons x l ih =>
                      intro hn i j hi hj
                      have hn' : (l.filterMap (·.wnum)).Nodup := by
                        cases hx : x with
                        | quiet lo' hi' => rw [hx, List.filterMap_cons_none (f := fun x => OpK.wnum x) (a := .quiet lo' hi') rfl] at hn; exact hn
                        | writes d => rw [hx, List.filterMap_cons_some (f := fun x => OpK.wnum x) (a := .writes d) (b := d) rfl] at hn; exact (List.nodup_cons.1 hn).2
                      have hno : ∀ (k : Nat), x = .writes m → l[k]? = some (.writes m) → False := by
                        intro k hx hk
                        rw [hx, List.filterMap_cons_some (f := fun x => OpK.wnum x) (a := .writes m) (b := m) rfl] at hn
                        exact (List.nodup_cons.1 hn).1 (List.mem_filterMap.2 ⟨_, List.mem_of_getElem? hk, rfl⟩)
                      match i, j, hi, hj with
                      | 0, 0, _, _ => rfl
                      | 0, j + 1, hi, hj =>
                        simp only [List.getElem?_cons_zero, Option.some.injEq] at hi
                        simp only [List.getElem?_cons_succ] at hj
                        exact (hno j hi hj).elim
                      | i + 1, 0, hi, hj =>
                        simp only [List.getElem?_cons_zero, Option.some.injEq] at hj
                        simp only [List.getElem?_cons_succ] at hi
                        exact (hno i hj hi).elim
                      | i + 1, j + 1, hi, hj =>
                        simp only [List.getElem?_cons_succ] at hi hj
                        rw [ih hn' i j hi hj]
                  exact hji (key ks hnd' i j (by rw [hkd, hkk]) hj)
                omega
          · intro j oj hoj hlj e he hb
            by_cases hji : i = j
            · subst hji
              rw [ho] at hoj
              injection hoj with hoj
              subst hoj
              have hon := hback e he hb
              rw [getD_set_other false (by omega)]
              exact hedges e he hb
            · rw [getD_set_other false hji] at hlj
              have h1 := inv.down j oj hoj hlj e he hb
              by_cases hie : i = e.on
              · rw [← hie, getD_set_same false hil]
              · rw [getD_set_other false hie]
                exact h1
        refine ih (listed.setIfInBounds i true) (a.put o.dst v) w' k' h' hinv (fun j hj hlj => ?_) hcount
        rcases Nat.eq_zero_or_pos fuel with h0 | h0
        · exfalso
          have hz : (listed.setIfInBounds i true).toList.count false = 0 := by omega
          rw [List.count_eq_zero] at hz
          have hjl : j < (listed.setIfInBounds i true).size := by rw [Array.size_setIfInBounds, inv.lsize]; exact hj
          refine hz ?_
          have hget : (listed.setIfInBounds i true)[j] = false := by
            rw [Array.getD_eq_getD_getElem?, Array.getElem?_eq_getElem hjl] at hlj
            simpa using hlj
          rw [← hget]
          exact Array.mem_toList_iff.2 (Array.getElem_mem hjl)
        · exact h0
      -- a guard
      have gd : ∀ (j : Nat) (b : Bool), o.guard = some (j, b) → ∀ g, (opsA[j]?).bind (·.dst) = some g → (Region.wanted o (yielded opsA a.tmps) = true ↔ a.eval (.tmp g) = .bool b) := by
        intro j b hg g hgd
        have hy : yielded opsA a.tmps j = (match a.tmps[g]? with | some (.bool c) => some c | _ => none) := by
          unfold yielded
          rw [hgd]
          rfl
        unfold Region.wanted
        rw [hg]
        show (yielded opsA a.tmps j == some b) = true ↔ _
        rw [hy]
        rcases Nat.lt_or_ge g a.tmps.size with hgs | hgs
        · have : a.eval (.tmp g) = a.tmps[g] := by simp [Act.eval, hgs]
          rw [this, Array.getElem?_eq_getElem hgs]
          rcases hx : a.tmps[g] <;> simp
        · simp [Act.eval, Array.getElem?_eq_none hgs, undef]
      have hPh := inv.ph
      have hbd := bnd inv opsA.size i o kd (by omega) ho hkd hlf
      cases hkk : kd with
      | quiet lo hi =>
        rw [hkk] at hob hbd
        have hlo : lo ≤ k := by
          obtain ⟨_, _, _, _, hq⟩ := form i o kd ho hkd
          rcases (hq lo hi hkk).1 with h0 | ⟨e, he, hb, k', hk', hle⟩
          · omega
          · have hon := hback e he hb
            have hle' := hedges e he hb
            have : e.on < opsA.size := by omega
            have := lev inv e.on _ k' (Array.getElem?_eq_getElem this) hk' hle'
            omega
        have hop := hob.2 a w h k hlo hbd hPh hseen
        have step' : ∀ w', Ph k h w' → wpAny P .any opsA Q fuel (listed.setIfInBounds i true) (a.put o.dst (f h)) w' := fun w' hP =>
          step (f h) w' k h (fun e => by rw [hkk] at e; cases e) (fun _ => rfl) (fun _ _ => rfl) rfl hP (fun m e => by rw [hkk] at e; cases e)
        unfold wpOp
        simp only [ho]
        cases hg : o.guard with
        | none =>
          rw [hg] at hop
          simp only [Region.wanted, hg, if_true]
          refine .inl (Oper.wp_mono ?_ hop)
          rintro a' w' ⟨rfl, hP⟩
          exact step' w' hP
        | some jb =>
          obtain ⟨j, b⟩ := jb
          rw [hg] at hop
          obtain ⟨g, hgd⟩ := Option.isSome_iff_exists.1 (hguard j b hg)
          dsimp only at hop
          rw [hgd] at hop
          simp only [Option.getD_some] at hop
          by_cases hgv : a.eval (.tmp g) = .bool b
          · rw [if_pos ((gd j b hg g hgd).2 hgv)]
            refine .inl (Oper.wp_mono ?_ (hop.1 hgv))
            rintro a' w' ⟨rfl, hP⟩
            exact step' w' hP
          · rw [if_neg (fun e => hgv ((gd j b hg g hgd).1 e)), ← hop.2 hgv]
            exact step' w hPh
      | writes m =>
        rw [hkk] at hob hbd
        have hmk : m = k := by
          have h1 : k ≤ m := hbd
          cases m with
          | zero => omega
          | succ m' =>
            obtain ⟨e, he, hb, k', hk', hle⟩ := hwprev m' hkk
            have hon := hback e he hb
            have hsz : e.on < opsA.size := by omega
            have := lev inv e.on _ k' (Array.getElem?_eq_getElem hsz) hk' (hedges e he hb)
            omega
        subst hmk
        obtain ⟨hgok, hop⟩ := hob.2 a w h hPh hseen
        have hwant : Region.wanted o (yielded opsA a.tmps) = true := by
          cases hg : o.guard with
          | none => simp [Region.wanted, hg]
          | some jb =>
            obtain ⟨j, b⟩ := jb
            rw [hg] at hgok
            obtain ⟨g, hgd⟩ := Option.isSome_iff_exists.1 (hguard j b hg)
            dsimp only at hgok
            rw [hgd] at hgok
            exact (gd j b hg g hgd).2 hgok
        unfold wpOp
        simp only [ho]
        rw [if_pos hwant]
        refine .inl (Oper.wp_mono ?_ hop)
        rintro a' w' ⟨v, rfl, hP⟩
        refine step v w' (m + 1) (upd h m v) (fun _ => rfl) (fun hn => (hn m hkk).elim) (fun i hi => (upd_ne h v (by omega)).symm) ?_ hP (fun m' e => by rw [hkk] at e; injection e with e; exact e.symm)
        rw [hob.1]
        exact upd_same h m v
  refine main _ _ _ _ 0 (fun _ => undef) ⟨by simp, rfl, rfl, fun _ _ => rfl, fun j o t f ho hf hd hl => ?_, Nat.zero_le _, fun i m hi => ?_, fun i o ho hl => ?_, h0 _⟩ ?_ ?_
  · simp [Array.getD_eq_getD_getElem?, Array.getElem?_replicate] at hl
    split at hl <;> simp at hl
  · simp [Array.getD_eq_getD_getElem?, Array.getElem?_replicate]
    split <;> simp
  · simp [Array.getD_eq_getD_getElem?, Array.getElem?_replicate] at hl
    split at hl <;> simp at hl
  · intro j hj _
    omega
  · simp

/-! ### one operation -/
section
variable {ops : Array Oper} {ds : List (Option Tmp)} {fs : List (Hist → Value)} {L : List (Tmp × Value)} {Ph : Nat → Hist → World → Prop} {Q : Exit → Act → World → Prop} {lo hi m : Nat} {f : Hist → Value} {o : Oper}

theorem ob_quiet (hg : o.guard = none) (hop : ∀ a w h k, lo ≤ k → k ≤ hi → Ph k h w → Seen5 ops o ds fs L h a (o.looksAt ops) → ∀ K : Act → World → Prop, (∀ w', Ph k h w' → K (a.put o.dst (f h)) w') → o.wp P a w K Q)
    (hst : ∀ h h' : Hist, (∀ i, i < lo → h i = h' i) → f h = f h') : Ob P ops ds fs L Ph Q (.quiet lo hi) f o :=
  ⟨hst, fun a w h k h1 h2 h3 h4 => by
    rw [hg]
    exact hop a w h k h1 h2 h3 h4 _ fun w' hw => ⟨rfl, hw⟩⟩
theorem seen_guard {j g : Nat} {b : Bool} {h : Hist} {a : Act} (hg : o.guard = some (j, b)) (hj : (ops[j]?).bind (·.dst) = some g) (hs : Seen5 ops o ds fs L h a (o.looksAt ops)) {v : Value} (hv : seeOf ops o L h g ds fs = some v) : a.eval (.tmp g) = v := by
  refine hs.at g ?_ hv
  unfold Oper.looksAt
  rw [hg]
  simp only [hj]
  simp
theorem ob_want {j g : Nat} {b : Bool} (hg : o.guard = some (j, b)) (hj : (ops[j]?).bind (·.dst) = some g) (hv : ∀ h, seeOf ops o L h g ds fs = some (.bool b))
    (hop : ∀ a w h k, lo ≤ k → k ≤ hi → Ph k h w → Seen5 ops o ds fs L h a (o.looksAt ops) → ∀ K : Act → World → Prop, (∀ w', Ph k h w' → K (a.put o.dst (f h)) w') → o.wp P a w K Q)
    (hst : ∀ h h' : Hist, (∀ i, i < lo → h i = h' i) → f h = f h') : Ob P ops ds fs L Ph Q (.quiet lo hi) f o :=
  ⟨hst, fun a w h k h1 h2 h3 h4 => by
    rw [hg]
    simp only [hj]
    refine ⟨fun _ => hop a w h k h1 h2 h3 h4 _ fun w' hw => ⟨rfl, hw⟩, fun hne => absurd (seen_guard hg hj h4 (hv h)) hne⟩⟩
theorem ob_skip {j g : Nat} {b : Bool} (hg : o.guard = some (j, b)) (hj : (ops[j]?).bind (·.dst) = some g) (hv : ∀ h, seeOf ops o L h g ds fs = some (.bool (!b))) : Ob P ops ds fs L Ph Q (.quiet lo hi) (fun _ => undef) o :=
  ⟨fun _ _ _ => rfl, fun a w h k h1 h2 h3 h4 => by
    rw [hg]
    simp only [hj]
    refine ⟨fun he => ?_, fun _ => trivial⟩
    have := seen_guard hg hj h4 (hv h)
    simp only [Option.getD_some] at he
    rw [this] at he
    cases b <;> simp at he⟩
theorem ob_skip_u {j g : Nat} {b : Bool} (hg : o.guard = some (j, b)) (hj : (ops[j]?).bind (·.dst) = some g) (hv : ∀ h, seeOf ops o L h g ds fs = some undef) : Ob P ops ds fs L Ph Q (.quiet lo hi) (fun _ => undef) o :=
  ⟨fun _ _ _ => rfl, fun a w h k h1 h2 h3 h4 => by
    rw [hg]
    simp only [hj]
    refine ⟨fun he => ?_, fun _ => trivial⟩
    have := seen_guard hg hj h4 (hv h)
    simp only [Option.getD_some] at he
    rw [this] at he
    simp [undef] at he⟩
theorem ob_writes (hg : o.guard = none) (hop : ∀ a w h, Ph m h w → Seen5 ops o ds fs L h a (o.looksAt ops) → ∀ K : Act → World → Prop, (∀ v w', Ph (m + 1) (upd h m v) w' → K (a.put o.dst v) w') → o.wp P a w K Q) : Ob P ops ds fs L Ph Q (.writes m) (fun h => h m) o :=
  ⟨rfl, fun a w h h1 h2 => by
    rw [hg]
    exact ⟨trivial, hop a w h h1 h2 _ fun v w' hw => ⟨v, rfl, hw⟩⟩⟩
theorem ob_writes_want {j g : Nat} {b : Bool} (hg : o.guard = some (j, b)) (hj : (ops[j]?).bind (·.dst) = some g) (hv : ∀ h, seeOf ops o L h g ds fs = some (.bool b))
    (hop : ∀ a w h, Ph m h w → Seen5 ops o ds fs L h a (o.looksAt ops) → ∀ K : Act → World → Prop, (∀ v w', Ph (m + 1) (upd h m v) w' → K (a.put o.dst v) w') → o.wp P a w K Q) : Ob P ops ds fs L Ph Q (.writes m) (fun h => h m) o :=
  ⟨rfl, fun a w h h1 h2 => by
    rw [hg]
    simp only [hj]
    exact ⟨seen_guard hg hj h2 (hv h), hop a w h h1 h2 _ fun v w' hw => ⟨v, rfl, hw⟩⟩⟩
end
end
end Go.Proofs.YtefloadjolpgbaaDoor

namespace Go.Proofs.YtefloadjolpgbaaDoor
open Go.RowKit

theorem sl_nil {P : Program} {ops : Array Oper} {y : Code} {Q : Exit → Act → World → Prop} {a : Act} {w : World} (h : Code.wp P y Q a w) : wpList P ops (Exit.then (Code.wp P y Q) Q) [] a w := h
theorem sl_then {P : Program} {y : Code} {Q : Exit → Act → World → Prop} {a : Act} {w : World} (h : Code.wp P y Q a w) : Exit.then (Code.wp P y Q) Q .normal a w := h
theorem sl_blk {P : Program} {id : Nat} {y : Code} {Q Q' : Exit → Act → World → Prop} {a : Act} {w : World} (h : Code.wp P y Q a w) : Exit.inBlock id (Exit.then (Code.wp P y Q) Q') .normal a w := h
theorem sl_exit {id : Nat} {Q : Exit → Act → World → Prop} {a : Act} {w : World} (h : Q .normal a w) : Exit.inBlock id Q (.exit id) a w := by
  simp [Exit.inBlock, h]

/-- A region that turns nothing. -/
structure PhEq (W : World) (k : Nat) (h : Hist) (w : World) : Prop where
  eq : w = W
end Go.Proofs.YtefloadjolpgbaaDoor

namespace Go.Proofs.YtefloadjolpgbaaDoor
open Go.RowKit

theorem Rd.blk {w : World} {b : Nat} {t : TypeId} {cs : Array Value} (h : Blk w b t cs) : Rd All w (some ⟨b, 0, none⟩) cs.toList := fun _ =>
  ⟨_, rfl, trivial, h.lt, fun j u hu => by
    rw [show (⟨b, 0, none⟩ : Addr).add j = ⟨b, j, none⟩ by unfold Addr.add; split <;> simp_all, h.cell j]
    simpa using hu⟩

/-- What an append leaves. -/
structure Apd (base : Nat) (e : TypeId) (v : Value) (k : Nat) (ys : List Value) (A' : Option Addr) (c' : Nat) (w w' : World) : Prop where
  own : w'.ownsRow base e 1 (.slice A' k c') k ys
  mod : Mod (fun k => v.ownBlock = some k) w w'
  blk : ∀ j, (Value.slice A' k c').ownBlock = some j → v.ownBlock = some j ∨ w.heap.size ≤ j

theorem sl_append1 {P : Program} {n : Nat} {L : List (Tmp × Value)} {a : Act} {ops : Array Oper} {Q : Exit → Act → World → Prop} {w : World} {rest : List Oper} {o : Oper} {d : Tmp}
    (HF : Sl n L a) (hgd : o.guard = none) (hd : o.dst = some d) (hdn : d < n) {s x : Tmp} {t : TypeId} (ho : o.op = .call { callee := .builtin .append, args := #[.tmp s, .tmp x], argTypes := #[t, t] })
    {base : Nat} {e : TypeId} {i : TypeInfo} {z : Value} {bytes : Nat} (ht : P.underlying t = some (.slice e)) (hi : P.info? e = some i) (hz : i.zero = some z) (hsize : i.size = 1) (hby : i.bytes = bytes) (hzs : z.cells.size = 1)
    {v : Value} {k : Nat} {xs : List Value} (hs : look L s = some v) (hown : w.ownsRow base e 1 v k xs) {S : Nat → Prop} {A : Option Addr} {m c : Nat} {news : List Value} (hx : look L x = some (.slice A m c)) (hl : news.length = m) (hr : Rd S w A news)
    (h1 : ∀ u ∈ news, u.oneCell' = true) (hbytes : (k + m) * bytes ≤ 140737488355328) (h63 : k + m ≤ maxLen) (hbase : base ≤ w.heap.size)
    (hk : ∀ A' c' w' a', Sl n ((d, .slice A' (k + m) c') :: L) a' → Apd base e v (k + m) (xs ++ news) A' c' w w' → wpList P ops Q rest a' w') : wpList P ops Q (o :: rest) a w := by
  refine wpList_append1' (w := w) hgd (.tmp s) (.tmp x) t ho base e i z bytes ht hi hz hsize hby hzs v k xs (HF.at s hs) hown S A m c news (HF.at x hx) hl hr h1 hbytes h63 hbase fun A' c' w' h1 h2 h3 => ?_
  rw [hd]
  exact hk A' c' w' _ (HF.put hdn _) ⟨h1, h2, h3⟩
end Go.Proofs.YtefloadjolpgbaaDoor
