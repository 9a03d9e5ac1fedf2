/- The argument of the law FrameDoes, opened. -/
import Derived.Test.YtpjpmlhnhcmacaaRowG
import Derived.Test.YtpjpmlhnhcmacaaFrdA
namespace Go.Proofs.Ytpjpmlhnhcmacaa
open Go.RowKit Go.ChangeShapes Go.WideShapes Go.Deep

section
variable {H : Type} {enc : TypeId × Value → H} {w : World}

/-- A slice of words. -/
theorem open_words {fuel : Nat} {v : Value} {y : DataW H × List MemPlace} (h : DataW.trod enc Try.prog w 0 (fun _ => true) true fuel 35 [v] = some y) :
    ∃ (B : Option Addr) (l : List Int) (c : Nat), v = .slice B l.length c ∧ l.length ≤ maxLen ∧ Rd All w B (l.map wv) := by
  rcases open_ints Try.underlying35 Try.underlying34 (by kernel_rfl) h with ⟨hcs, _⟩ | ⟨x, len, c, zs, hcs, _, hl, hm, hz, hx, hcell, hwz⟩
  · injection hcs with hcs
    subst hcs
    exact ⟨none, [], 0, rfl, by simp [maxLen], Rd.nil _ _ _⟩
  · injection hcs with hcs
    subst hcs
    have hz' : zs.length = c := by simpa using hz
    have hll : (zs.take len).length = len := by rw [List.length_take]; omega
    refine ⟨some x, zs.take len, c, by rw [hll], by omega, fun hn => ?_⟩
    have hn' : 0 < len := by
      rw [List.length_map, hll] at hn
      exact hn
    have hb : x.block < w.heap.size := by
      have h0 := hcell 0 (by omega)
      rw [add_zero] at h0
      exact World.block_lt_of_cell? w x h0
    refine ⟨x, rfl, trivial, hb, fun j u hu => ?_⟩
    have hj : j < len := by
      have := (List.getElem?_eq_some_iff.1 hu).1
      rw [List.length_map, hll] at this
      exact this
    rw [hcell j (by omega), ← hu]
    have hjz : j < zs.length := by omega
    simp [wv, hj, List.getD, hjz]

/-- The argument of the law FrameDoes; its numbers are ints. -/
theorem open_deeds {a : Option Addr} {len cap : Nat} {d : DataW H} {p : List MemPlace}
    (h : DataW.Trod enc Try.prog w 0 (fun _ => true) true 22 (.slice a len cap) d p) :
    ∃ l : List Deed, (l.length = len ∧ DeedsAt All w a l) ∧ ∀ f ∈ l, f.n ≤ 9223372036854775807 := by
  obtain ⟨fuel, hf⟩ := h
  rcases open_slice_fields Try.underlying22 Try.underlying37 (by kernel_rfl) (by kernel_rfl) hf with ⟨hcs, _⟩ | ⟨x, l, c, m, D, Pl, hcs, _, hl, hm, hmm, _, hat⟩
  · simp [Value.cells] at hcs
    obtain ⟨rfl, rfl, rfl⟩ := hcs
    exact ⟨[], ⟨rfl, fun h => by simp at h⟩, fun f hf => by simp at hf⟩
  · simp [Value.cells] at hcs
    obtain ⟨rfl, rfl, rfl⟩ := hcs
    have hm2 : m = cap := by simpa using hmm
    subst hm2
    have each : ∀ i, i < len → ∃ f : Deed, f.n ≤ 9223372036854775807 ∧ w.cell? (x.add (i * 6)) = some (.int .i64 f.kind) ∧ w.cell? (x.add (i * 6 + 1)) = some (.int .i64 f.n) ∧ w.cell? (x.add (i * 6 + 2)) = some (.int .i64 f.m) ∧ w.cell? (x.add (i * 6 + 3)) = some (.int .i64 f.i) ∧ w.cell? (x.add (i * 6 + 4)) = some (.int .u64 f.x) ∧
        ∃ B c, w.cell? (x.add (i * 6 + 5)) = some (.slice B f.l.length c) ∧ f.l.length ≤ maxLen ∧ Rd All w B (f.l.map wv) := by
      intro i hi
      obtain ⟨ys, n, _, _, _, hfld⟩ := hat i (by omega)
      obtain ⟨v0, y0, c0, _, t0⟩ := hfld 0 _ rfl
      obtain ⟨v1, y1, c1, _, t1⟩ := hfld 1 _ rfl
      obtain ⟨v2, y2, c2, _, t2⟩ := hfld 2 _ rfl
      obtain ⟨v3, y3, c3, _, t3⟩ := hfld 3 _ rfl
      obtain ⟨v4, y4, c4, _, t4⟩ := hfld 4 _ rfl
      obtain ⟨v5, y5, c5, _, t5⟩ := hfld 5 _ rfl
      obtain ⟨z0, e0, _, _⟩ := DataW.trod_int Try.underlying3 t0
      obtain ⟨z1, e1, _, w1⟩ := DataW.trod_int Try.underlying3 t1
      obtain ⟨z2, e2, _, _⟩ := DataW.trod_int Try.underlying3 t2
      obtain ⟨z3, e3, _, _⟩ := DataW.trod_int Try.underlying3 t3
      obtain ⟨z4, e4, _, _⟩ := DataW.trod_int Try.underlying34 t4
      obtain ⟨B, ls, c, e5, h1, h2⟩ := open_words t5
      injection e0 with e0
      injection e1 with e1
      injection e2 with e2
      injection e3 with e3
      injection e4 with e4
      subst e0 e1 e2 e3 e4 e5
      exact ⟨⟨z0, z1, z2, z3, z4, ls⟩, (by have := bounds_i64 w1; show z1 ≤ _; omega), c0, c1, c2, c3, c4, B, c, c5, h1, h2⟩
    obtain ⟨F, hF⟩ : ∃ F : Nat → Deed, ∀ i, i < len → (F i).n ≤ 9223372036854775807 ∧ w.cell? (x.add (i * 6)) = some (.int .i64 (F i).kind) ∧ w.cell? (x.add (i * 6 + 1)) = some (.int .i64 (F i).n) ∧ w.cell? (x.add (i * 6 + 2)) = some (.int .i64 (F i).m) ∧ w.cell? (x.add (i * 6 + 3)) = some (.int .i64 (F i).i) ∧ w.cell? (x.add (i * 6 + 4)) = some (.int .u64 (F i).x) ∧
        ∃ B c, w.cell? (x.add (i * 6 + 5)) = some (.slice B (F i).l.length c) ∧ (F i).l.length ≤ maxLen ∧ Rd All w B ((F i).l.map wv) :=
      ⟨fun i => if h : i < len then (each i h).choose else ⟨0, 0, 0, 0, 0, []⟩, fun i hi => by simp only [hi, dif_pos]; exact (each i hi).choose_spec⟩
    refine ⟨(List.range len).map F, ⟨by simp, fun hn => ?_⟩, fun f hf => by obtain ⟨i, hi, rfl⟩ := List.mem_map.1 hf; exact (hF i (List.mem_range.1 hi)).1⟩
    have hn' : 0 < len := by simpa using hn
    have hspot : x.spot = none := by
      have h0 := (hF 0 hn').2.1
      have := cell_spot h0
      rwa [Nat.zero_mul, add_zero] at this
    have hb : x.block < w.heap.size := by
      have h0 := (hF 0 hn').2.1
      rw [Nat.zero_mul, add_zero] at h0
      exact World.block_lt_of_cell? w x h0
    refine ⟨x.block, x.off, by obtain ⟨b, o, s⟩ := x; simp only at hspot; rw [hspot], trivial, hb, fun i f hi => ?_⟩
    have hil : i < len := by
      have := (List.getElem?_eq_some_iff.1 hi).1
      simpa using this
    have hfi : F i = f := by simpa [hil] using hi
    subst hfi
    obtain ⟨_, h0, h1, h2, h3, h4, B, c, h5, hr5⟩ := hF i hil
    rw [add_lit' hspot] at h0 h1 h2 h3 h4 h5
    exact ⟨h0, by rw [Nat.add_assoc]; exact h1, by rw [Nat.add_assoc]; exact h2, by rw [Nat.add_assoc]; exact h3, by rw [Nat.add_assoc]; exact h4, B, c, by rw [Nat.add_assoc]; exact h5, hr5⟩
end
end Go.Proofs.Ytpjpmlhnhcmacaa
