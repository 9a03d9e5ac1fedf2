/- Arguments that are slices of structs of one-cell fields, opened; the fields of the laws of layer 1. -/
import Derived.Test.YtdllafmponmkmaaRow
import Derived.Test.YtdllafmponmkmaaFld
import Derived.Deep.Slices
import Derived.Deep.Fields
import Derived.ChangeSame
import Derived.SliceStrings
namespace Go.Proofs.Ytdllafmponmkmaa
open Go.RowKit Go.ChangeShapes Go.WideShapes Go.Deep

section
variable {H : Type} {enc : TypeId × Value → H} {P : Program} {w : World} {base : Nat} {spare : Nat → Bool} {held : Bool}
theorem open_slice_fields {t e : TypeId} {fs : Array Field} {fuel : Nat} {cs : List Value} {x : DataW H × List MemPlace} (ht : P.underlying t = some (.slice e)) (he : P.underlying e = some (.struct fs))
    (hone : oneCellFields P fs = true) (hC : P.cellsOf e = fs.size) (h : DataW.trod enc P w base spare held fuel t cs = some x) :
    (cs = [.slice none 0 0] ∧ x = (.nil, [])) ∨
    ∃ (a : Addr) (len cap m : Nat) (D : Nat → DataW H) (Pl : Nat → List MemPlace), cs = [.slice (some a) len cap] ∧ base ≤ a.block ∧ len ≤ cap ∧ cap ≤ maxLen ∧ m = (if spare a.block then cap else len) ∧
      x = (.slice ((List.range len).map D) ((List.range (m - len)).map fun j => D (len + j)), MemPlace.row a (m * fs.size) ++ (List.range m).flatMap Pl) ∧
      ∀ i, i < m → ∃ (ys : List (DataW H × List MemPlace)) (n : Nat), D i = .agg (ys.map (·.1)) ∧ Pl i = ys.flatMap (·.2) ∧ ys.length = fs.size ∧
        ∀ (j : Nat) (f : Field), fs[j]? = some f → ∃ (v : Value) (y : DataW H × List MemPlace), w.cell? (a.add (i * fs.size + j)) = some v ∧ ys[j]? = some y ∧ DataW.trod enc P w base spare held n f.type [v] = some y := by
  rcases open_slice ht h with h0 | ⟨a, len, cap, m, n, D, Pl, hcs, hb, hl, hm, hmm, hx, hi⟩
  · exact .inl h0
  · refine .inr ⟨a, len, cap, m, D, Pl, hcs, hb, hl, hm, hmm, by rw [hC] at hx; exact hx, fun i him => ?_⟩
    obtain ⟨cs', hc, ht'⟩ := hi i him
    rw [hC] at hc
    obtain ⟨ys, n', hn', hy, hlen, hyl, hf⟩ := DataW.trod_struct he ht'
    obtain ⟨_, hcl, hat⟩ := World.cells?_some hc
    simp only [Prod.mk.injEq] at hy
    refine ⟨ys, n', hy.1, hy.2, hyl, fun j f hj => ?_⟩
    obtain ⟨ho, hk⟩ := hone_of hone j f hj
    have hjl : j < fs.size := (Array.getElem?_eq_some_iff.1 hj).1
    have hcell := hat j hjl
    have hv : cs'[j]? = some (cs'[j]'(by omega)) := List.getElem?_eq_getElem (by omega)
    have h1 := hf j f hj
    rw [ho, hk] at h1
    have hone' : (cs'.drop j).take 1 = [cs'[j]'(by omega)] := by
      rw [List.drop_eq_getElem_cons (by omega)]
      rfl
    rw [hone'] at h1
    have hys : ys[j]? = some (ys[j]'(by omega)) := List.getElem?_eq_getElem (by omega)
    refine ⟨_, _, ?_, hys, h1.trans hys⟩
    rw [← Go.Deep.add_add, hcell, hv]
end

section
variable {H : Type} {enc : TypeId × Value → H} {w : World}

theorem cell_spot {w : World} {a : Addr} {n : Nat} {v : Value} (h : w.cell? (a.add n) = some v) : (a.add n).spot = none := by
  unfold World.cell? at h
  split at h
  · split at h
    · cases h
    · rename_i hs
      simpa using hs
  · cases h

theorem add_lit' {a : Addr} (h : a.spot = none) (n : Nat) : a.add n = ⟨a.block, a.off + n, none⟩ := by
  obtain ⟨b, o, s⟩ := a
  simp only at h
  subst h
  exact Addr.add_lit _ _ _

/-- A slice of strings. -/
theorem open_strs {sp : Nat → Bool} {fuel : Nat} {v : Value} {y : DataW H × List MemPlace} (h : DataW.trod enc Try.prog w 0 sp true fuel 35 [v] = some y) :
    ∃ (B : Option Addr) (l : List ByteArray) (c : Nat), v = .slice B l.length c ∧ l.length ≤ maxLen ∧ (∀ t ∈ l, t.size ≤ maxLen) ∧ Rd All w B (l.map Value.string) := by
  rcases open_strings Try.underlying35 Try.underlying9 (by kernel_rfl) h with ⟨hcs, _⟩ | ⟨a, len, cap, ss, hcs, _, hl, hm, hlen, _, hcell, hsz⟩
  · injection hcs with hcs
    subst hcs
    exact ⟨none, [], 0, rfl, by simp [maxLen], fun _ h => by simp at h, Rd.nil _ _ _⟩
  · injection hcs with hcs
    subst hcs
    have hll : (ss.take len).length = len := by
      rw [List.length_take, hlen]
      split <;> omega
    refine ⟨some a, ss.take len, cap, by rw [hll], by omega, fun t ht => hsz t (List.mem_of_mem_take ht), fun hn => ?_⟩
    rw [List.length_map, hll] at hn
    have hge : len ≤ ss.length := by rw [hlen]; split <;> omega
    have hb : a.block < w.heap.size := by
      have h0 := hcell 0 (by omega)
      rw [add_zero] at h0
      exact World.block_lt_of_cell? w a h0
    refine ⟨a, rfl, trivial, hb, fun j u hu => ?_⟩
    have hj : j < len := by
      have := (List.getElem?_eq_some_iff.1 hu).1
      rwa [List.length_map, hll] at this
    rw [hcell j (by omega), ← hu]
    simp [List.getD, hj, show j < ss.length by omega]

/-- The argument of the laws of layer 1. -/
theorem open_flds {a : Option Addr} {len cap : Nat} {d : DataW H} {p : List MemPlace}
    (h : DataW.Trod enc Try.prog w 0 (fun _ => true) true 30 (.slice a len cap) d p) :
    ∃ fs : List Fld, fs.length = len ∧ FldsAt All w a fs := by
  obtain ⟨fuel, hf⟩ := h
  rcases open_slice_fields Try.underlying30 Try.underlying37 (by kernel_rfl) (by kernel_rfl) hf with ⟨hcs, _⟩ | ⟨x, l, c, m, D, Pl, hcs, _, hl, hm, hmm, _, hat⟩
  · simp [Value.cells] at hcs
    obtain ⟨rfl, rfl, rfl⟩ := hcs
    exact ⟨[], rfl, fun h => by simp at h⟩
  · simp [Value.cells] at hcs
    obtain ⟨rfl, rfl, rfl⟩ := hcs
    have hm2 : m = cap := by simpa using hmm
    subst hm2
    have each : ∀ i, i < len → ∃ f : Fld, w.cell? (x.add (i * 4)) = some (.int .i64 f.kind) ∧ w.cell? (x.add (i * 4 + 1)) = some (.int .i64 f.n) ∧ w.cell? (x.add (i * 4 + 2)) = some (.string f.s) ∧
        ∃ B c, w.cell? (x.add (i * 4 + 3)) = some (.slice B f.l.length c) ∧ f.l.length ≤ maxLen ∧ f.s.size ≤ maxLen ∧ (∀ t ∈ f.l, t.size ≤ maxLen) ∧ Rd All w B (f.l.map Value.string) := by
      intro i hi
      obtain ⟨ys, n, _, _, _, hfld⟩ := hat i (by omega)
      obtain ⟨v0, y0, c0, _, t0⟩ := hfld 0 _ rfl
      obtain ⟨v1, y1, c1, _, t1⟩ := hfld 1 _ rfl
      obtain ⟨v2, y2, c2, _, t2⟩ := hfld 2 _ rfl
      obtain ⟨v3, y3, c3, _, t3⟩ := hfld 3 _ rfl
      obtain ⟨kind, e0, _, _⟩ := DataW.trod_int Try.underlying3 t0
      obtain ⟨num, e1, _, _⟩ := DataW.trod_int Try.underlying3 t1
      obtain ⟨s, e2, _, hs⟩ := DataW.trod_string Try.underlying9 t2
      obtain ⟨B, ls, c, e3, h1, h2, h3⟩ := open_strs t3
      injection e0 with e0
      injection e1 with e1
      injection e2 with e2
      subst e0 e1 e2 e3
      exact ⟨⟨kind, num, s, ls⟩, c0, c1, c2, B, c, c3, h1, hs, h2, h3⟩
    obtain ⟨F, hF⟩ : ∃ F : Nat → Fld, ∀ i, i < len → w.cell? (x.add (i * 4)) = some (.int .i64 (F i).kind) ∧ w.cell? (x.add (i * 4 + 1)) = some (.int .i64 (F i).n) ∧ w.cell? (x.add (i * 4 + 2)) = some (.string (F i).s) ∧
        ∃ B c, w.cell? (x.add (i * 4 + 3)) = some (.slice B (F i).l.length c) ∧ (F i).l.length ≤ maxLen ∧ (F i).s.size ≤ maxLen ∧ (∀ t ∈ (F i).l, t.size ≤ maxLen) ∧ Rd All w B ((F i).l.map Value.string) :=
      ⟨fun i => if h : i < len then (each i h).choose else ⟨0, 0, ByteArray.empty, []⟩, fun i hi => by simp only [hi, dif_pos]; exact (each i hi).choose_spec⟩
    refine ⟨(List.range len).map F, by simp, fun hn => ?_⟩
    have hn' : 0 < len := by simpa using hn
    have hspot : x.spot = none := by
      have h0 := (hF 0 hn').1
      have := cell_spot h0
      rwa [Nat.zero_mul, add_zero] at this
    have hb : x.block < w.heap.size := by
      have h0 := (hF 0 hn').1
      rw [Nat.zero_mul, add_zero] at h0
      exact World.block_lt_of_cell? w x h0
    refine ⟨x.block, x.off, by obtain ⟨b, o, s⟩ := x; simp only at hspot; rw [hspot], trivial, hb, fun i f hi => ?_⟩
    have hil : i < len := by
      have := (List.getElem?_eq_some_iff.1 hi).1
      simpa using this
    have hfi : F i = f := by simpa [hil] using hi
    subst hfi
    obtain ⟨h0, h1, h2, B, c, h3, hrest⟩ := hF i hil
    rw [add_lit' hspot] at h0 h1 h2 h3
    exact ⟨h0, by rw [Nat.add_assoc]; exact h1, by rw [Nat.add_assoc]; exact h2, B, c, by rw [Nat.add_assoc]; exact h3, hrest⟩
end
end Go.Proofs.Ytdllafmponmkmaa
