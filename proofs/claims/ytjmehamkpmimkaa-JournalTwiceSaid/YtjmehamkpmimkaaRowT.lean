/- The arguments of the law JournalTwice: texts; a power and a crash by value. -/
import Derived.Test.YtjmehamkpmimkaaRowJ
import Derived.Test.YtjmehamkpmimkaaJrnTwW
namespace Go.Proofs.Ytjmehamkpmimkaa
open Go.RowKit Go.ChangeShapes Go.WideShapes Go.Deep

section
variable {H : Type} {enc : TypeId × Value → H} {P : Program} {w : World} {base : Nat} {spare : Nat → Bool} {held : Bool}
theorem open_struct_fields {t : TypeId} {fs : Array Field} {fuel : Nat} {cs : List Value} {x : DataW H × List MemPlace} (he : P.underlying t = some (.struct fs))
    (hone : oneCellFields P fs = true) (hC : P.cellsOf t = fs.size) (h : DataW.trod enc P w base spare held fuel t cs = some x) :
    cs.length = fs.size ∧ ∃ n, ∀ (j : Nat) (f : Field), fs[j]? = some f → ∃ (v : Value) (y : DataW H × List MemPlace), cs[j]? = some v ∧ DataW.trod enc P w base spare held n f.type [v] = some y := by
  obtain ⟨ys, n', hn', hy, hlen, hyl, hf⟩ := DataW.trod_struct he h
  rw [hC] at hlen
  refine ⟨hlen, n', fun j f hj => ?_⟩
  obtain ⟨ho, hk⟩ := hone_of hone j f hj
  have hjl : j < fs.size := (Array.getElem?_eq_some_iff.1 hj).1
  have hv : cs[j]? = some (cs[j]'(by omega)) := List.getElem?_eq_getElem (by omega)
  have h1 := hf j f hj
  rw [ho, hk] at h1
  have hone' : (cs.drop j).take 1 = [cs[j]'(by omega)] := by
    rw [List.drop_eq_getElem_cons (by omega)]
    rfl
  rw [hone'] at h1
  have hys : ys[j]? = some (ys[j]'(by omega)) := List.getElem?_eq_getElem (by omega)
  exact ⟨_, _, hv, h1.trans hys⟩
end

section
variable {H : Type} {enc : TypeId × Value → H} {w : World}

theorem open_fail {cs : Array Value} {d : DataW H} {p : List MemPlace} (h : DataW.Trod enc Try.prog w 0 (fun _ => true) true 57 (.agg cs) d p) :
    ∃ (f : Fail4) (K : Option Addr) (dd : Nat), cs = #[.int .i64 f.power, .slice K f.keep.length dd, .int .i64 f.n, .int .i64 f.m] ∧ f.keep.length ≤ maxLen ∧ Rd All w K (f.keep.map Value.bool) ∧ f.power ≤ 9223372036854775807 := by
  obtain ⟨fuel, hf⟩ := h
  obtain ⟨hl, n, hfld⟩ := open_struct_fields Try.underlying57 (by kernel_rfl) (by kernel_rfl) hf
  obtain ⟨v0, y0, c0, t0⟩ := hfld 0 _ rfl
  obtain ⟨v1, y1, c1, t1⟩ := hfld 1 _ rfl
  obtain ⟨v2, y2, c2, t2⟩ := hfld 2 _ rfl
  obtain ⟨v3, y3, c3, t3⟩ := hfld 3 _ rfl
  obtain ⟨num, e0, _, wnum⟩ := DataW.trod_int Try.underlying3 t0
  obtain ⟨K, bs, dd, e1, h3, h4⟩ := open_boolsl t1
  obtain ⟨num2, e2, _, _⟩ := DataW.trod_int Try.underlying3 t2
  obtain ⟨num3, e3, _, _⟩ := DataW.trod_int Try.underlying3 t3
  injection e0 with e0
  injection e2 with e2
  injection e3 with e3
  subst e0 e1 e2 e3
  refine ⟨⟨num, bs, num2, num3⟩, K, dd, ?_, h3, h4, by have := bounds_i64 wnum; show num ≤ _; omega⟩
  have hl4 : cs.toList.length = 4 := hl
  apply Array.toList_inj.1
  have hh : ∀ l : List Value, l.length = 4 → l[0]? = some (Value.int .i64 num) → l[1]? = some (Value.slice K bs.length dd) → l[2]? = some (Value.int .i64 num2) → l[3]? = some (Value.int .i64 num3) → l = [.int .i64 num, .slice K bs.length dd, .int .i64 num2, .int .i64 num3] := by
    intro l hl h0 h1 h2 h3
    match l, hl with
    | [a, b, c, d], _ =>
      simp at h0 h1 h2 h3
      rw [h0, h1, h2, h3]
  exact hh cs.toList hl4 c0 c1 c2 c3

theorem open_texts {a : Option Addr} {len cap : Nat} {d : DataW H} {p : List MemPlace}
    (h : DataW.Trod enc Try.prog w 0 (fun _ => true) true 59 (.slice a len cap) d p) :
    ∃ ps : List (List UInt8), ps.length = len ∧ Parts All w a ps := by
  obtain ⟨fuel, hf⟩ := h
  rcases open_slice Try.underlying59 hf with ⟨hcs, _⟩ | ⟨x, l, c, m, n, D, Pl, hcs, _, hl, hm, hmm, _, hat⟩
  · simp [Value.cells] at hcs
    obtain ⟨rfl, rfl, rfl⟩ := hcs
    exact ⟨[], rfl, parts_nil _ _ _⟩
  · simp [Value.cells] at hcs
    obtain ⟨rfl, rfl, rfl⟩ := hcs
    have hm2 : m = cap := by simpa using hmm
    subst hm2
    have hC : Try.prog.cellsOf 36 = 1 := by kernel_rfl
    have each : ∀ i, i < len → ∃ (q : List UInt8) (B : Option Addr) (c : Nat), w.cell? (x.add i) = some (.slice B q.length c) ∧ q.length ≤ maxLen ∧ Rd All w B (q.map bv) := by
      intro i hi
      obtain ⟨cs', hc, ht'⟩ := hat i (by omega)
      rw [hC, Nat.mul_one] at hc
      obtain ⟨_, hcl, hcell⟩ := World.cells?_some hc
      obtain ⟨v, rfl⟩ : ∃ v, cs' = [v] := List.length_eq_one_iff.1 hcl
      obtain ⟨B, q, cc, rfl, h1, h2⟩ := open_oct ht'
      have h0 := hcell 0 (by omega)
      rw [add_zero] at h0
      exact ⟨q, B, cc, h0, h1, h2⟩
    obtain ⟨Q, hQ⟩ : ∃ Q : Nat → List UInt8, ∀ i, i < len → ∃ (B : Option Addr) (c : Nat), w.cell? (x.add i) = some (.slice B (Q i).length c) ∧ (Q i).length ≤ maxLen ∧ Rd All w B ((Q i).map bv) :=
      ⟨fun i => if h : i < len then (each i h).choose else [], fun i hi => by simp only [hi, dif_pos]; exact (each i hi).choose_spec⟩
    obtain ⟨V, hV⟩ : ∃ V : Nat → Value, ∀ i, i < len → w.cell? (x.add i) = some (V i) ∧ ∃ (B : Option Addr) (c : Nat), V i = .slice B (Q i).length c ∧ (Q i).length ≤ maxLen ∧ Rd All w B ((Q i).map bv) :=
      ⟨fun i => if h : i < len then .slice (hQ i h).choose (Q i).length (hQ i h).choose_spec.choose else undef, fun i hi => by
        simp only [hi, dif_pos]
        obtain ⟨h1, h2, h3⟩ := (hQ i hi).choose_spec.choose_spec
        exact ⟨h1, _, _, rfl, h2, h3⟩⟩
    refine ⟨(List.range len).map Q, by simp, (List.range len).map V, fun hn => ?_, by simp, fun i q hq => ?_⟩
    · have hn' : 0 < len := by simpa using hn
      have hb : x.block < w.heap.size := by
        have h0 := (hV 0 hn').1
        rw [add_zero] at h0
        exact World.block_lt_of_cell? w x h0
      refine ⟨x, rfl, trivial, hb, fun j u hu => ?_⟩
      have hj : j < len := by
        have := (List.getElem?_eq_some_iff.1 hu).1
        simpa using this
      rw [(hV j hj).1, ← hu]
      simp [hj]
    · have hil : i < len := by
        have := (List.getElem?_eq_some_iff.1 hq).1
        simpa using this
      have hqi : Q i = q := by simpa [hil] using hq
      subst hqi
      obtain ⟨_, B, cc, hv, h2, h3⟩ := hV i hil
      exact ⟨B, cc, by simp [hil, hv], h2, h3⟩
end
end Go.Proofs.Ytjmehamkpmimkaa
