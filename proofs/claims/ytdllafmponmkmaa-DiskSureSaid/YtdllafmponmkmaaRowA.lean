/- The argument of the laws of layer 3, opened. -/
import Derived.Test.YtdllafmponmkmaaRowF
import Derived.Test.YtdllafmponmkmaaAct
import Derived.Deep.Grids
namespace Go.Proofs.Ytdllafmponmkmaa
open Go.RowKit Go.ChangeShapes Go.WideShapes Go.Deep

section
variable {H : Type} {enc : TypeId × Value → H} {w : World}

/-- A slice of octets. -/
theorem open_oct {fuel : Nat} {v : Value} {y : DataW H × List MemPlace} (h : DataW.trod enc Try.prog w 0 (fun _ => true) true fuel 22 [v] = some y) :
    ∃ (B : Option Addr) (l : List UInt8) (c : Nat), v = .slice B l.length c ∧ l.length ≤ maxLen ∧ Rd All w B (l.map bv) := by
  rcases open_ints Try.underlying22 Try.underlying5 (by kernel_rfl) h with ⟨hcs, _⟩ | ⟨x, len, c, zs, hcs, _, hl, hm, hz, hx, hcell, hwz⟩
  · injection hcs with hcs
    subst hcs
    exact ⟨none, [], 0, rfl, by simp [maxLen], Rd.nil _ _ _⟩
  · injection hcs with hcs
    subst hcs
    have hz' : zs.length = c := by simpa using hz
    have hll : ((zs.take len).map fun n => UInt8.ofNat n.toNat).length = len := by rw [List.length_map, List.length_take]; omega
    refine ⟨some x, (zs.take len).map fun n => UInt8.ofNat n.toNat, c, by rw [hll], by omega, fun hn => ?_⟩
    have hn' : 0 < len := by
      rw [List.length_map, hll] at hn
      exact hn
    have hb : x.block < w.heap.size := by
      have h0 := hcell 0 (by omega)
      rw [add_zero] at h0
      exact World.block_lt_of_cell? w x h0
    refine ⟨x, rfl, trivial, hb, fun j u hu => ?_⟩
    have hj : j < len := by
      have := (List.getElem?_eq_some_iff.1 hu).1
      rw [List.length_map, hll] at this
      exact this
    rw [hcell j (by omega), ← hu]
    have hjz : j < zs.length := by omega
    have hw := wf_u8 (hwz zs[j] (List.getElem_mem hjz))
    simp [bv, hj, List.getD, hjz]
    omega

/-- A slice of Booleans. -/
theorem open_boolsl {fuel : Nat} {v : Value} {y : DataW H × List MemPlace} (h : DataW.trod enc Try.prog w 0 (fun _ => true) true fuel 77 [v] = some y) :
    ∃ (B : Option Addr) (l : List Bool) (c : Nat), v = .slice B l.length c ∧ l.length ≤ maxLen ∧ Rd All w B (l.map Value.bool) := by
  rcases open_bools Try.underlying77 Try.underlying4 (by kernel_rfl) h with ⟨hcs, _⟩ | ⟨x, len, c, Z, hcs, _, hl, hm, _, hcell⟩
  · injection hcs with hcs
    subst hcs
    exact ⟨none, [], 0, rfl, by simp [maxLen], Rd.nil _ _ _⟩
  · injection hcs with hcs
    subst hcs
    refine ⟨some x, (List.range len).map Z, c, by simp, by simp; omega, fun hn => ?_⟩
    have hn' : 0 < len := by simpa using hn
    have hb : x.block < w.heap.size := by
      have h0 := hcell 0 (by omega)
      rw [add_zero] at h0
      exact World.block_lt_of_cell? w x h0
    refine ⟨x, rfl, trivial, hb, fun j u hu => ?_⟩
    have hj : j < len := by
      have := (List.getElem?_eq_some_iff.1 hu).1
      simpa using this
    rw [hcell j (by omega), ← hu]
    simp [hj]

/-- The argument of the laws of layer 3; its numbers are ints. -/
theorem open_acts2 {a : Option Addr} {len cap : Nat} {d : DataW H} {p : List MemPlace}
    (h : DataW.Trod enc Try.prog w 0 (fun _ => true) true 72 (.slice a len cap) d p) :
    ∃ l : List Act3, (l.length = len ∧ ActsAt All w a l) ∧ ∀ f ∈ l, f.n ≤ 9223372036854775807 := by
  obtain ⟨fuel, hf⟩ := h
  rcases open_slice_fields Try.underlying72 Try.underlying79 (by kernel_rfl) (by kernel_rfl) hf with ⟨hcs, _⟩ | ⟨x, l, c, m, D, Pl, hcs, _, hl, hm, hmm, _, hat⟩
  · simp [Value.cells] at hcs
    obtain ⟨rfl, rfl, rfl⟩ := hcs
    exact ⟨[], ⟨rfl, fun h => by simp at h⟩, fun f hf => by simp at hf⟩
  · simp [Value.cells] at hcs
    obtain ⟨rfl, rfl, rfl⟩ := hcs
    have hm2 : m = cap := by simpa using hmm
    subst hm2
    have each : ∀ i, i < len → ∃ f : Act3, f.n ≤ 9223372036854775807 ∧ w.cell? (x.add (i * 5)) = some (.int .i64 f.kind) ∧ w.cell? (x.add (i * 5 + 1)) = some (.int .i64 f.n) ∧ w.cell? (x.add (i * 5 + 2)) = some (.int .i64 f.m) ∧
        (∃ B c, w.cell? (x.add (i * 5 + 3)) = some (.slice B f.b.length c) ∧ f.b.length ≤ maxLen ∧ Rd All w B (f.b.map bv)) ∧
        ∃ K c, w.cell? (x.add (i * 5 + 4)) = some (.slice K f.keep.length c) ∧ f.keep.length ≤ maxLen ∧ Rd All w K (f.keep.map Value.bool) := by
      intro i hi
      obtain ⟨ys, n, _, _, _, hfld⟩ := hat i (by omega)
      obtain ⟨v0, y0, c0, _, t0⟩ := hfld 0 _ rfl
      obtain ⟨v1, y1, c1, _, t1⟩ := hfld 1 _ rfl
      obtain ⟨v2, y2, c2, _, t2⟩ := hfld 2 _ rfl
      obtain ⟨v3, y3, c3, _, t3⟩ := hfld 3 _ rfl
      obtain ⟨v4, y4, c4, _, t4⟩ := hfld 4 _ rfl
      obtain ⟨kind, e0, _, _⟩ := DataW.trod_int Try.underlying3 t0
      obtain ⟨num, e1, _, wnum⟩ := DataW.trod_int Try.underlying3 t1
      obtain ⟨num2, e2, _, _⟩ := DataW.trod_int Try.underlying3 t2
      obtain ⟨B, ls, c, e3, h1, h2⟩ := open_oct t3
      obtain ⟨K, bs, d, e4, h3, h4⟩ := open_boolsl t4
      injection e0 with e0
      injection e1 with e1
      injection e2 with e2
      subst e0 e1 e2 e3 e4
      exact ⟨⟨kind, num, num2, ls, bs⟩, (by have := bounds_i64 wnum; show num ≤ _; omega), c0, c1, c2, ⟨B, c, c3, h1, h2⟩, K, d, c4, h3, h4⟩
    obtain ⟨F, hF⟩ : ∃ F : Nat → Act3, ∀ i, i < len → (F i).n ≤ 9223372036854775807 ∧ w.cell? (x.add (i * 5)) = some (.int .i64 (F i).kind) ∧ w.cell? (x.add (i * 5 + 1)) = some (.int .i64 (F i).n) ∧ w.cell? (x.add (i * 5 + 2)) = some (.int .i64 (F i).m) ∧
        (∃ B c, w.cell? (x.add (i * 5 + 3)) = some (.slice B (F i).b.length c) ∧ (F i).b.length ≤ maxLen ∧ Rd All w B ((F i).b.map bv)) ∧
        ∃ K c, w.cell? (x.add (i * 5 + 4)) = some (.slice K (F i).keep.length c) ∧ (F i).keep.length ≤ maxLen ∧ Rd All w K ((F i).keep.map Value.bool) :=
      ⟨fun i => if h : i < len then (each i h).choose else ⟨0, 0, 0, [], []⟩, fun i hi => by simp only [hi, dif_pos]; exact (each i hi).choose_spec⟩
    refine ⟨(List.range len).map F, ⟨by simp, fun hn => ?_⟩, fun f hf => by obtain ⟨i, hi, rfl⟩ := List.mem_map.1 hf; exact (hF i (List.mem_range.1 hi)).1⟩
    have hn' : 0 < len := by simpa using hn
    have hspot : x.spot = none := by
      have h0 := (hF 0 hn').2.1
      have := cell_spot h0
      rwa [Nat.zero_mul, add_zero] at this
    have hb : x.block < w.heap.size := by
      have h0 := (hF 0 hn').2.1
      rw [Nat.zero_mul, add_zero] at h0
      exact World.block_lt_of_cell? w x h0
    refine ⟨x.block, x.off, by obtain ⟨b, o, s⟩ := x; simp only at hspot; rw [hspot], trivial, hb, fun i f hi => ?_⟩
    have hil : i < len := by
      have := (List.getElem?_eq_some_iff.1 hi).1
      simpa using this
    have hfi : F i = f := by simpa [hil] using hi
    subst hfi
    obtain ⟨_, h0, h1, h2, ⟨B, c, h3, hr3⟩, K, d, h4, hr4⟩ := hF i hil
    rw [add_lit' hspot] at h0 h1 h2 h3 h4
    exact ⟨h0, by rw [Nat.add_assoc]; exact h1, by rw [Nat.add_assoc]; exact h2, ⟨B, c, by rw [Nat.add_assoc]; exact h3, hr3⟩, K, d, by rw [Nat.add_assoc]; exact h4, hr4⟩

/-- The argument of the laws of layer 3. -/
theorem open_acts {a : Option Addr} {len cap : Nat} {d : DataW H} {p : List MemPlace}
    (h : DataW.Trod enc Try.prog w 0 (fun _ => true) true 72 (.slice a len cap) d p) :
    ∃ l : List Act3, l.length = len ∧ ActsAt All w a l := by
  obtain ⟨l, h, _⟩ := open_acts2 h
  exact ⟨l, h⟩
end
end Go.Proofs.Ytdllafmponmkmaa
