/- A set of scopes: a map keyed by pointers to scopes. -/
import Derived.Test.YtpjpmlhnhcmacaaFrdP
import Derived.LaidEql
import Derived.MapKept
namespace Go.Proofs.Ytpjpmlhnhcmacaa
open Go.RowKit

def scp (b : Nat) : Value := .pointer (some ⟨b, 0, none⟩)
/-- Block r is a map that holds the scopes at the blocks bs. -/
def SetAt (w : World) (r : Nat) (bs : List Nat) : Prop :=
  ∃ es clock, w.heap[r]? = some (.map es clock) ∧ es.toList.map (·.key) = bs.map scp ∧ ∀ e ∈ es.toList, e.val = .agg #[]
/-- Block b holds cells. -/
def IsCs (w : World) (b : Nat) : Prop := ∃ cs t, w.heap[b]? = some (.cells cs t (0, 0))
theorem Blk.isCs {w : World} {g : Nat} {t : TypeId} {cs : Array Value} (h : Blk w g t cs) : IsCs w g := ⟨cs, t, h⟩
theorem IsCs.keep {F : Nat → Prop} {w w' : World} {b : Nat} (h : IsCs w b) (hm : Mod F w w') (hn : ¬ F b) : IsCs w' b := by
  obtain ⟨cs, t, h⟩ := h
  exact ⟨cs, t, (hm.block b (Array.getElem?_eq_some_iff.1 h).1 hn).trans h⟩

theorem SetAt.keep {F : Nat → Prop} {w w' : World} {r : Nat} {bs : List Nat} (h : SetAt w r bs) (hm : Mod F w w') (hn : ¬ F r) : SetAt w' r bs := by
  obtain ⟨es, c, h1, h2⟩ := h
  exact ⟨es, c, (hm.block r (Array.getElem?_eq_some_iff.1 h1).1 hn).trans h1, h2⟩
theorem SetAt.lt {w : World} {r : Nat} {bs : List Nat} (h : SetAt w r bs) : r < w.heap.size := by
  obtain ⟨es, c, h1, h2⟩ := h
  exact (Array.getElem?_eq_some_iff.1 h1).1
theorem SetAt.ne {w : World} {r b : Nat} {bs : List Nat} (h : SetAt w r bs) (hb : IsCs w b) : b ≠ r := by
  rintro rfl
  obtain ⟨es, c, h1, _⟩ := h
  obtain ⟨cs, t, h2⟩ := hb
  rw [h1] at h2
  cases h2
theorem set_new (w : World) : SetAt (w.alloc (.map #[] 0)) w.heap.size [] := ⟨#[], 0, heap_alloc_new w _, rfl, fun e he => by simp at he⟩

theorem run_eqIn_sc (d : Nat) {w : World} {a b : Nat} (ha : IsCs w a) (hb : IsCs w b) : (Op.equalIn (d + 1) 38 (scp a) (scp b)).run Try.prog w = .ok (a == b) w := by
  obtain ⟨ca, ta, ha⟩ := ha
  obtain ⟨cb, tb, hb⟩ := hb
  have hsz : (Try.prog.info? 70).map (·.size) = some 2 := by kernel_rfl
  obtain ⟨i, hi, hi2⟩ := Option.map_eq_some_iff.1 hsz
  by_cases h : a = b
  · subst h
    simp [Op.equalIn, scp, run_underlying Try.underlying38, sizeOf, typeInfo, hi, hi2, run_sameAddr_same]
  · have := run_sameAddr_other (P := Try.prog) w (a := ⟨a, 0, none⟩) (b := ⟨b, 0, none⟩) (by intro e; injection e with e; exact h e) ha hb
    simp [Op.equalIn, scp, run_underlying Try.underlying38, sizeOf, typeInfo, hi, hi2, this, h]
theorem run_eq_sc {w : World} {a b : Nat} (ha : IsCs w a) (hb : IsCs w b) : (Op.equal 38 (scp a) (scp b)).run Try.prog w = .ok (a == b) w := run_eqIn_sc 9999 ha hb

theorem run_asking {w : World} {b : Nat} (hb : IsCs w b) : ∀ (es : List MapEntry) (bs : List Nat) (i : Nat), es.map (·.key) = bs.map scp → (∀ e ∈ es, e.val = .agg #[]) → (∀ x ∈ bs, IsCs w x) →
    (Instr.findAsking 38 (scp b) es i).run Try.prog w = .ok (if b ∈ bs then some (i + bs.idxOf b, .agg #[]) else none) w
  | [], bs, i, hk, _, _ => by
    have : bs = [] := by simpa using hk.symm
    subst this
    simp [Instr.findAsking]
  | e :: es, [], i, hk, _, _ => by simp at hk
  | e :: es, x :: bs, i, hk, hv, hc => by
    simp only [List.map_cons, List.cons.injEq] at hk
    have he := run_eq_sc hb (hc x (by simp))
    rw [← hk.1] at he
    have ih := run_asking hb es bs (i + 1) hk.2 (fun y hy => hv y (by simp [hy])) (fun y hy => hc y (by simp [hy]))
    unfold Instr.findAsking
    simp only [Sem.run_bind, he, Result.andThen_ok]
    by_cases h : b = x
    · subst h
      simp [hv e (by simp)]
    · have h' : ¬ x = b := fun e => h e.symm
      simp only [h, beq_iff_eq, if_false, ih, List.mem_cons, false_or, List.idxOf_cons]
      rw [show (x == b) = false by simp [h']]
      by_cases hm : b ∈ bs
      · simp [hm, h', List.idxOf_cons]; omega
      · simp [hm]

theorem run_findKey_sc {w : World} {b : Nat} (hb : IsCs w b) {es : List MapEntry} {bs : List Nat} (hk : es.map (·.key) = bs.map scp) (hv : ∀ e ∈ es, e.val = .agg #[]) (hc : ∀ x ∈ bs, IsCs w x) :
    (Instr.findKey 38 (scp b) es).run Try.prog w = .ok (if b ∈ bs then some (bs.idxOf b, .agg #[]) else none) w := by
  unfold Instr.findKey
  simp only [Sem.run_bind, run_underlying Try.underlying38, Result.andThen_ok]
  cases es with
  | nil =>
    have : bs = [] := by simpa using hk.symm
    subst this
    simp [Instr.findNow]
  | cons e es =>
    have : Instr.findNow (.pointer 70) (scp b) (e :: es) 0 = none := by
      simp [Instr.findNow, Instr.sameNow]
    rw [this]
    have := run_asking hb (e :: es) bs 0 hk hv hc
    simpa using this

theorem run_check_sc (em : Bool) (b : Nat) (w : World) : (Instr.checkKey em 10000 38 (scp b)).run Try.prog w = .ok () w := by
  show (Instr.checkKey em (9999 + 1) 38 (scp b)).run Try.prog w = _
  unfold Instr.checkKey
  simp [run_underlying Try.underlying38, scp]

theorem run_seen {w : World} {r b : Nat} {bs : List Nat} (h : SetAt w r bs) (hb : IsCs w b) (hc : ∀ x ∈ bs, IsCs w x) :
    (Instr.lookup 78 (.map (some r)) (scp b) true).run Try.prog w = .ok (.tuple #[.agg #[], .bool (decide (b ∈ bs))]) w := by
  obtain ⟨es, c, h1, h2, h3⟩ := h
  have hf := run_findKey_sc hb h2 h3 hc
  have hz : (zeroValue 79).run Try.prog w = .ok (.agg #[]) w := by kernel_rfl
  unfold Instr.lookup
  simp only [Sem.run_bind, run_underlying Try.underlying78, Result.andThen_ok, MapKept.run_getObj_map h1, run_check_sc, hf, Sem.run_pure]
  by_cases hm : b ∈ bs <;> simp [hm, hz]

theorem run_told {w : World} {r b : Nat} {bs : List Nat} (h : SetAt w r bs) (hb : IsCs w b) (hc : ∀ x ∈ bs, IsCs w x) (hn : b ∉ bs) :
    ∃ w', (Instr.mapUpdate 78 (.map (some r)) (scp b) (.agg #[])).run Try.prog w = .ok () w' ∧ SetAt w' r (bs ++ [b]) ∧ Mod (fun k => k = r) w w' := by
  obtain ⟨es, c, h1, h2, h3⟩ := h
  have hf := run_findKey_sc hb h2 h3 hc
  rw [if_neg hn] at hf
  refine ⟨{ w with heap := w.heap.setIfInBounds r (.map (es.push { key := scp b, val := .agg #[], born := c }) (c + 1)) }, ?_, ⟨es.push { key := scp b, val := .agg #[], born := c }, c + 1, ?_, ?_, ?_⟩, ?_⟩
  · unfold Instr.mapUpdate
    simp only [Sem.run_bind, run_underlying Try.underlying78, Result.andThen_ok, MapKept.run_getObj_map h1, run_check_sc, hf]
    exact MapKept.run_setObj_map _ h1
  · have := (Array.getElem?_eq_some_iff.1 h1).1
    simp [this]
  · simp [h2]
  · intro e he
    simp at he
    rcases he with he | rfl
    · exact h3 e (by simpa using he)
    · rfl
  · exact ⟨rfl, rfl, rfl, by simp, fun k hk hn => by
      show (w.heap.setIfInBounds r _)[k]? = _
      rw [Array.getElem?_setIfInBounds_ne (fun e => hn e.symm)]⟩
end Go.Proofs.Ytpjpmlhnhcmacaa
