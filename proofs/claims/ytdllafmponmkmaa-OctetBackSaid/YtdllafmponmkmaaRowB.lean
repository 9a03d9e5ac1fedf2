/- The fields of the laws of layer 1, opened, with the bounds of their numbers. -/
import Derived.Test.YtdllafmponmkmaaRowF
namespace Go.Proofs.Ytdllafmponmkmaa
open Go.RowKit Go.ChangeShapes Go.WideShapes Go.Deep

section
variable {H : Type} {enc : TypeId × Value → H} {w : World}

/-- The argument of the laws of layer 1; its numbers are ints. -/
theorem open_flds2 {a : Option Addr} {len cap : Nat} {d : DataW H} {p : List MemPlace}
    (h : DataW.Trod enc Try.prog w 0 (fun _ => true) true 30 (.slice a len cap) d p) :
    ∃ fs : List Fld, (fs.length = len ∧ FldsAt All w a fs) ∧ ∀ f ∈ fs, -9223372036854775808 ≤ f.n ∧ f.n ≤ 9223372036854775807 := by
  obtain ⟨fuel, hf⟩ := h
  rcases open_slice_fields Try.underlying30 Try.underlying37 (by kernel_rfl) (by kernel_rfl) hf with ⟨hcs, _⟩ | ⟨x, l, c, m, D, Pl, hcs, _, hl, hm, hmm, _, hat⟩
  · simp [Value.cells] at hcs
    obtain ⟨rfl, rfl, rfl⟩ := hcs
    exact ⟨[], ⟨rfl, fun h => by simp at h⟩, fun f hf => by simp at hf⟩
  · simp [Value.cells] at hcs
    obtain ⟨rfl, rfl, rfl⟩ := hcs
    have hm2 : m = cap := by simpa using hmm
    subst hm2
    have each : ∀ i, i < len → ∃ f : Fld, (-9223372036854775808 ≤ f.n ∧ f.n ≤ 9223372036854775807) ∧ w.cell? (x.add (i * 4)) = some (.int .i64 f.kind) ∧ w.cell? (x.add (i * 4 + 1)) = some (.int .i64 f.n) ∧ w.cell? (x.add (i * 4 + 2)) = some (.string f.s) ∧
        ∃ B c, w.cell? (x.add (i * 4 + 3)) = some (.slice B f.l.length c) ∧ f.l.length ≤ maxLen ∧ f.s.size ≤ maxLen ∧ (∀ t ∈ f.l, t.size ≤ maxLen) ∧ Rd All w B (f.l.map Value.string) := by
      intro i hi
      obtain ⟨ys, n, _, _, _, hfld⟩ := hat i (by omega)
      obtain ⟨v0, y0, c0, _, t0⟩ := hfld 0 _ rfl
      obtain ⟨v1, y1, c1, _, t1⟩ := hfld 1 _ rfl
      obtain ⟨v2, y2, c2, _, t2⟩ := hfld 2 _ rfl
      obtain ⟨v3, y3, c3, _, t3⟩ := hfld 3 _ rfl
      obtain ⟨kind, e0, _, _⟩ := DataW.trod_int Try.underlying3 t0
      obtain ⟨num, e1, _, wnum⟩ := DataW.trod_int Try.underlying3 t1
      obtain ⟨s, e2, _, hs⟩ := DataW.trod_string Try.underlying9 t2
      obtain ⟨B, ls, c, e3, h1, h2, h3⟩ := open_strs t3
      injection e0 with e0
      injection e1 with e1
      injection e2 with e2
      subst e0 e1 e2 e3
      exact ⟨⟨kind, num, s, ls⟩, (by have := bounds_i64 wnum; show -9223372036854775808 ≤ num ∧ num ≤ _; omega), c0, c1, c2, B, c, c3, h1, hs, h2, h3⟩
    obtain ⟨F, hF⟩ : ∃ F : Nat → Fld, ∀ i, i < len → (-9223372036854775808 ≤ (F i).n ∧ (F i).n ≤ 9223372036854775807) ∧ w.cell? (x.add (i * 4)) = some (.int .i64 (F i).kind) ∧ w.cell? (x.add (i * 4 + 1)) = some (.int .i64 (F i).n) ∧ w.cell? (x.add (i * 4 + 2)) = some (.string (F i).s) ∧
        ∃ B c, w.cell? (x.add (i * 4 + 3)) = some (.slice B (F i).l.length c) ∧ (F i).l.length ≤ maxLen ∧ (F i).s.size ≤ maxLen ∧ (∀ t ∈ (F i).l, t.size ≤ maxLen) ∧ Rd All w B ((F i).l.map Value.string) :=
      ⟨fun i => if h : i < len then (each i h).choose else ⟨0, 0, ByteArray.empty, []⟩, fun i hi => by simp only [hi, dif_pos]; exact (each i hi).choose_spec⟩
    refine ⟨(List.range len).map F, ⟨by simp, fun hn => ?_⟩, fun f hf => by obtain ⟨i, hi, rfl⟩ := List.mem_map.1 hf; exact (hF i (List.mem_range.1 hi)).1⟩
    have hn' : 0 < len := by simpa using hn
    have hspot : x.spot = none := by
      have h0 := (hF 0 hn').2.1
      have := cell_spot h0
      rwa [Nat.zero_mul, add_zero] at this
    have hb : x.block < w.heap.size := by
      have h0 := (hF 0 hn').2.1
      rw [Nat.zero_mul, add_zero] at h0
      exact World.block_lt_of_cell? w x h0
    refine ⟨x.block, x.off, by obtain ⟨b, o, s⟩ := x; simp only at hspot; rw [hspot], trivial, hb, fun i f hi => ?_⟩
    have hil : i < len := by
      have := (List.getElem?_eq_some_iff.1 hi).1
      simpa using this
    have hfi : F i = f := by simpa [hil] using hi
    subst hfi
    obtain ⟨_, h0, h1, h2, B, c, h3, hrest⟩ := hF i hil
    rw [add_lit' hspot] at h0 h1 h2 h3
    exact ⟨h0, by rw [Nat.add_assoc]; exact h1, by rw [Nat.add_assoc]; exact h2, B, c, by rw [Nat.add_assoc]; exact h3, hrest⟩
end
end Go.Proofs.Ytdllafmponmkmaa
