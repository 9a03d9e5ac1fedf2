/- The arguments of the laws of layer 4: powers and crashes. -/
import Derived.Test.YtjmehamkpmimkaaRowA
import Derived.Test.YtjmehamkpmimkaaJrnCrW
namespace Go.Proofs.Ytjmehamkpmimkaa
open Go.RowKit Go.ChangeShapes Go.WideShapes Go.Deep

section
variable {H : Type} {enc : TypeId × Value → H} {w : World}

theorem open_fails {a : Option Addr} {len cap : Nat} {d : DataW H} {p : List MemPlace}
    (h : DataW.Trod enc Try.prog w 0 (fun _ => true) true 55 (.slice a len cap) d p) :
    ∃ l : List Fail4, (l.length = len ∧ FailsAt All w a l) ∧ ∀ f ∈ l, f.power ≤ 9223372036854775807 := by
  obtain ⟨fuel, hf⟩ := h
  rcases open_slice_fields Try.underlying55 Try.underlying57 (by kernel_rfl) (by kernel_rfl) hf with ⟨hcs, _⟩ | ⟨x, l, c, m, D, Pl, hcs, _, hl, hm, hmm, _, hat⟩
  · simp [Value.cells] at hcs
    obtain ⟨rfl, rfl, rfl⟩ := hcs
    exact ⟨[], ⟨rfl, fun h => by simp at h⟩, fun f hf => by simp at hf⟩
  · simp [Value.cells] at hcs
    obtain ⟨rfl, rfl, rfl⟩ := hcs
    have hm2 : m = cap := by simpa using hmm
    subst hm2
    have each : ∀ i, i < len → ∃ f : Fail4, f.power ≤ 9223372036854775807 ∧ w.cell? (x.add (i * 4)) = some (.int .i64 f.power) ∧ (∃ K c, w.cell? (x.add (i * 4 + 1)) = some (.slice K f.keep.length c) ∧ f.keep.length ≤ maxLen ∧ Rd All w K (f.keep.map Value.bool)) ∧
        w.cell? (x.add (i * 4 + 2)) = some (.int .i64 f.n) ∧ w.cell? (x.add (i * 4 + 3)) = some (.int .i64 f.m) := by
      intro i hi
      obtain ⟨ys, n, _, _, _, hfld⟩ := hat i (by omega)
      obtain ⟨v0, y0, c0, _, t0⟩ := hfld 0 _ rfl
      obtain ⟨v1, y1, c1, _, t1⟩ := hfld 1 _ rfl
      obtain ⟨v2, y2, c2, _, t2⟩ := hfld 2 _ rfl
      obtain ⟨v3, y3, c3, _, t3⟩ := hfld 3 _ rfl
      obtain ⟨num, e0, _, wnum⟩ := DataW.trod_int Try.underlying3 t0
      obtain ⟨K, bs, dd, e1, h3, h4⟩ := open_boolsl t1
      obtain ⟨num2, e2, _, _⟩ := DataW.trod_int Try.underlying3 t2
      obtain ⟨num3, e3, _, _⟩ := DataW.trod_int Try.underlying3 t3
      injection e0 with e0
      injection e2 with e2
      injection e3 with e3
      subst e0 e1 e2 e3
      exact ⟨⟨num, bs, num2, num3⟩, (by have := bounds_i64 wnum; show num ≤ _; omega), c0, ⟨K, dd, c1, h3, h4⟩, c2, c3⟩
    obtain ⟨F, hF⟩ : ∃ F : Nat → Fail4, ∀ i, i < len → (F i).power ≤ 9223372036854775807 ∧ w.cell? (x.add (i * 4)) = some (.int .i64 (F i).power) ∧ (∃ K c, w.cell? (x.add (i * 4 + 1)) = some (.slice K (F i).keep.length c) ∧ (F i).keep.length ≤ maxLen ∧ Rd All w K ((F i).keep.map Value.bool)) ∧
        w.cell? (x.add (i * 4 + 2)) = some (.int .i64 (F i).n) ∧ w.cell? (x.add (i * 4 + 3)) = some (.int .i64 (F i).m) :=
      ⟨fun i => if h : i < len then (each i h).choose else ⟨0, [], 0, 0⟩, fun i hi => by simp only [hi, dif_pos]; exact (each i hi).choose_spec⟩
    refine ⟨(List.range len).map F, ⟨by simp, fun hn => ?_⟩, fun f hf => by obtain ⟨i, hi, rfl⟩ := List.mem_map.1 hf; exact (hF i (List.mem_range.1 hi)).1⟩
    have hn' : 0 < len := by simpa using hn
    have hspot : x.spot = none := by
      have h0 := (hF 0 hn').2.1
      have := cell_spot h0
      rwa [Nat.zero_mul, add_zero] at this
    have hb : x.block < w.heap.size := by
      have h0 := (hF 0 hn').2.1
      rw [Nat.zero_mul, add_zero] at h0
      exact World.block_lt_of_cell? w x h0
    refine ⟨x.block, x.off, by obtain ⟨b, o, s⟩ := x; simp only at hspot; rw [hspot], trivial, hb, fun i f hi => ?_⟩
    have hil : i < len := by
      have := (List.getElem?_eq_some_iff.1 hi).1
      simpa using this
    have hfi : F i = f := by simpa [hil] using hi
    subst hfi
    obtain ⟨_, h0, ⟨K, c, h1, hr1⟩, h2, h3⟩ := hF i hil
    rw [add_lit' hspot] at h0 h1 h2 h3
    exact ⟨h0, ⟨K, c, by rw [Nat.add_assoc]; exact h1, hr1⟩, by rw [Nat.add_assoc]; exact h2, by rw [Nat.add_assoc]; exact h3⟩
end
end Go.Proofs.Ytjmehamkpmimkaa
