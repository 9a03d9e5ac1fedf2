/- The argument of the law JournalActs: acts that hold an act of layer 3. -/
import Derived.Test.YtjmehamkpmimkaaRowA
import Derived.Test.YtjmehamkpmimkaaAct4
namespace Go.Proofs.Ytjmehamkpmimkaa
open Go.RowKit Go.ChangeShapes Go.WideShapes Go.Deep

section
variable {H : Type} {enc : TypeId × Value → H} {P : Program} {w : World} {base : Nat} {spare : Nat → Bool} {held : Bool}
theorem struct_fields1 {t : TypeId} {fs : Array Field} {fuel : Nat} {cs : List Value} {x : DataW H × List MemPlace} (he : P.underlying t = some (.struct fs))
    (hone : oneCellFields P fs = true) (hC : P.cellsOf t = fs.size) (h : DataW.trod enc P w base spare held fuel t cs = some x) :
    cs.length = fs.size ∧ ∃ n, ∀ (j : Nat) (f : Field), fs[j]? = some f → ∃ (v : Value) (y : DataW H × List MemPlace), cs[j]? = some v ∧ DataW.trod enc P w base spare held n f.type [v] = some y := by
  obtain ⟨ys, n', hn', hy, hlen, hyl, hf⟩ := DataW.trod_struct he h
  rw [hC] at hlen
  refine ⟨hlen, n', fun j f hj => ?_⟩
  obtain ⟨ho, hk⟩ := hone_of hone j f hj
  have hjl : j < fs.size := (Array.getElem?_eq_some_iff.1 hj).1
  have hv : cs[j]? = some (cs[j]'(by omega)) := List.getElem?_eq_getElem (by omega)
  have h1 := hf j f hj
  rw [ho, hk] at h1
  have hone' : (cs.drop j).take 1 = [cs[j]'(by omega)] := by
    rw [List.drop_eq_getElem_cons (by omega)]
    rfl
  rw [hone'] at h1
  have hys : ys[j]? = some (ys[j]'(by omega)) := List.getElem?_eq_getElem (by omega)
  exact ⟨_, _, hv, h1.trans hys⟩
theorem six_of {l : List Value} (h : l.length = 6) : ∃ a b c d e f, l = [a, b, c, d, e, f] := by
  match l, h with
  | [a, b, c, d, e, f], _ => exact ⟨a, b, c, d, e, f, rfl⟩
end

section
variable {H : Type} {enc : TypeId × Value → H} {w : World}

theorem open_acts4 {a : Option Addr} {len cap : Nat} {d : DataW H} {p : List MemPlace}
    (h : DataW.Trod enc Try.prog w 0 (fun _ => true) true 25 (.slice a len cap) d p) :
    ∃ l : List Act4, (l.length = len ∧ Acts4At All w a l) ∧ ∀ f ∈ l, f.raw.n ≤ 9223372036854775807 := by
  obtain ⟨fuel, hf⟩ := h
  rcases open_slice Try.underlying25 hf with ⟨hcs, _⟩ | ⟨x, l, c, m, n, D, Pl, hcs, _, hl, hm, hmm, _, hat⟩
  · simp [Value.cells] at hcs
    obtain ⟨rfl, rfl, rfl⟩ := hcs
    exact ⟨[], ⟨rfl, fun h => by simp at h⟩, fun f hf => by simp at hf⟩
  · simp [Value.cells] at hcs
    obtain ⟨rfl, rfl, rfl⟩ := hcs
    have hm2 : m = cap := by simpa using hmm
    subst hm2
    have hC : Try.prog.cellsOf 41 = 6 := by kernel_rfl
    have hC0 : Try.prog.cellsOf 3 = 1 := by kernel_rfl
    have hC1 : Try.prog.cellsOf 39 = 5 := by kernel_rfl
    have each : ∀ i, i < len → ∃ f : Act4, f.raw.n ≤ 9223372036854775807 ∧ w.cell? (x.add (i * 6)) = some (.int .i64 f.kind) ∧ w.cell? (x.add (i * 6 + 1)) = some (.int .i64 f.raw.kind) ∧ w.cell? (x.add (i * 6 + 1 + 1)) = some (.int .i64 f.raw.n) ∧ w.cell? (x.add (i * 6 + 1 + 2)) = some (.int .i64 f.raw.m) ∧
        (∃ B c, w.cell? (x.add (i * 6 + 1 + 3)) = some (.slice B f.raw.b.length c) ∧ f.raw.b.length ≤ maxLen ∧ Rd All w B (f.raw.b.map bv)) ∧
        ∃ K c, w.cell? (x.add (i * 6 + 1 + 4)) = some (.slice K f.raw.keep.length c) ∧ f.raw.keep.length ≤ maxLen ∧ Rd All w K (f.raw.keep.map Value.bool) := by
      intro i hi
      obtain ⟨cs', hc, ht'⟩ := hat i (by omega)
      rw [hC] at hc
      obtain ⟨_, hcl, hcell⟩ := World.cells?_some hc
      obtain ⟨v, v0, v1, v2, v3, v4, rfl⟩ := six_of hcl
      obtain ⟨z0, z1, nn, _, _, tk, tr⟩ := trod_struct2 Try.underlying41 ht'
      rw [hC0] at tk
      rw [hC1] at tr
      replace tk : DataW.trod enc Try.prog w 0 (fun _ => true) true nn 3 [v] = some z0 := tk
      replace tr : DataW.trod enc Try.prog w 0 (fun _ => true) true nn 39 [v0, v1, v2, v3, v4] = some z1 := tr
      obtain ⟨_, n', hfld⟩ := struct_fields1 Try.underlying39 (by kernel_rfl) (by kernel_rfl) tr
      obtain ⟨u0, y0, c0, t0⟩ := hfld 0 _ rfl
      obtain ⟨u1, y1, c1, t1⟩ := hfld 1 _ rfl
      obtain ⟨u2, y2, c2, t2⟩ := hfld 2 _ rfl
      obtain ⟨u3, y3, c3, t3⟩ := hfld 3 _ rfl
      obtain ⟨u4, y4, c4, t4⟩ := hfld 4 _ rfl
      obtain rfl : v0 = u0 := Option.some.inj c0
      obtain rfl : v1 = u1 := Option.some.inj c1
      obtain rfl : v2 = u2 := Option.some.inj c2
      obtain rfl : v3 = u3 := Option.some.inj c3
      obtain rfl : v4 = u4 := Option.some.inj c4
      obtain ⟨kd, ek, _, _⟩ := DataW.trod_int Try.underlying3 tk
      obtain ⟨kind, e0, _, _⟩ := DataW.trod_int Try.underlying3 t0
      obtain ⟨num, e1, _, wnum⟩ := DataW.trod_int Try.underlying3 t1
      obtain ⟨num2, e2, _, _⟩ := DataW.trod_int Try.underlying3 t2
      obtain ⟨B, ls, c, e3, h1, h2⟩ := open_oct t3
      obtain ⟨K, bs, dd, e4, h3, h4⟩ := open_boolsl t4
      injection ek with ek
      injection e0 with e0
      injection e1 with e1
      injection e2 with e2
      subst ek e0 e1 e2 e3 e4
      have q0 := hcell 0 (by omega)
      have q1 := hcell 1 (by omega)
      have q2 := hcell 2 (by omega)
      have q3 := hcell 3 (by omega)
      have q4 := hcell 4 (by omega)
      have q5 := hcell 5 (by omega)
      rw [add_zero] at q0
      rw [add_of_add] at q1 q2 q3 q4 q5
      exact ⟨⟨kd, ⟨kind, num, num2, ls, bs⟩⟩, (by have := bounds_i64 wnum; show num ≤ _; omega), q0, q1, q2, q3, ⟨B, c, q4, h1, h2⟩, K, dd, q5, h3, h4⟩
    obtain ⟨F, hF⟩ : ∃ F : Nat → Act4, ∀ i, i < len → (F i).raw.n ≤ 9223372036854775807 ∧ w.cell? (x.add (i * 6)) = some (.int .i64 (F i).kind) ∧ w.cell? (x.add (i * 6 + 1)) = some (.int .i64 (F i).raw.kind) ∧ w.cell? (x.add (i * 6 + 1 + 1)) = some (.int .i64 (F i).raw.n) ∧ w.cell? (x.add (i * 6 + 1 + 2)) = some (.int .i64 (F i).raw.m) ∧
        (∃ B c, w.cell? (x.add (i * 6 + 1 + 3)) = some (.slice B (F i).raw.b.length c) ∧ (F i).raw.b.length ≤ maxLen ∧ Rd All w B ((F i).raw.b.map bv)) ∧
        ∃ K c, w.cell? (x.add (i * 6 + 1 + 4)) = some (.slice K (F i).raw.keep.length c) ∧ (F i).raw.keep.length ≤ maxLen ∧ Rd All w K ((F i).raw.keep.map Value.bool) :=
      ⟨fun i => if h : i < len then (each i h).choose else ⟨0, ⟨0, 0, 0, [], []⟩⟩, fun i hi => by simp only [hi, dif_pos]; exact (each i hi).choose_spec⟩
    refine ⟨(List.range len).map F, ⟨by simp, fun hn => ?_⟩, fun f hf => by obtain ⟨i, hi, rfl⟩ := List.mem_map.1 hf; exact (hF i (List.mem_range.1 hi)).1⟩
    have hn' : 0 < len := by simpa using hn
    have hspot : x.spot = none := by
      have h0 := (hF 0 hn').2.1
      have := cell_spot h0
      rwa [Nat.zero_mul, add_zero] at this
    have hb : x.block < w.heap.size := by
      have h0 := (hF 0 hn').2.1
      rw [Nat.zero_mul, add_zero] at h0
      exact World.block_lt_of_cell? w x h0
    refine ⟨x.block, x.off, by obtain ⟨b, o, s⟩ := x; simp only at hspot; rw [hspot], trivial, hb, fun i f hi => ?_⟩
    have hil : i < len := by
      have := (List.getElem?_eq_some_iff.1 hi).1
      simpa using this
    have hfi : F i = f := by simpa [hil] using hi
    subst hfi
    obtain ⟨_, hk, h0, h1, h2, ⟨B, c, h3, hr3⟩, K, d, h4, hr4⟩ := hF i hil
    rw [add_lit' hspot] at hk h0 h1 h2 h3 h4
    have ea : ∀ j, x.off + i * 6 + 1 + j = x.off + (i * 6 + 1 + j) := fun j => by omega
    exact ⟨hk, by rw [Nat.add_assoc]; exact h0, by rw [ea]; exact h1, by rw [ea]; exact h2, ⟨B, c, by rw [ea]; exact h3, hr3⟩, K, d, by rw [ea]; exact h4, hr4⟩
end
end Go.Proofs.Ytjmehamkpmimkaa
