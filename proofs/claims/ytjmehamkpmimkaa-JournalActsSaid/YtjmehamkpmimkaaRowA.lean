/- The argument of the laws of layer 3, opened. -/
import Derived.Test.YtjmehamkpmimkaaRowF
import Derived.Test.YtjmehamkpmimkaaAct
import Derived.Deep.Grids
namespace Go.Proofs.Ytjmehamkpmimkaa
open Go.RowKit Go.ChangeShapes Go.WideShapes Go.Deep

section
variable {H : Type} {enc : TypeId × Value → H} {w : World}

/-- A slice of octets. -/
theorem open_oct {fuel : Nat} {v : Value} {y : DataW H × List MemPlace} (h : DataW.trod enc Try.prog w 0 (fun _ => true) true fuel 36 [v] = some y) :
    ∃ (B : Option Addr) (l : List UInt8) (c : Nat), v = .slice B l.length c ∧ l.length ≤ maxLen ∧ Rd All w B (l.map bv) := by
  rcases open_ints Try.underlying36 Try.underlying5 (by kernel_rfl) h with ⟨hcs, _⟩ | ⟨x, len, c, zs, hcs, _, hl, hm, hz, hx, hcell, hwz⟩
  · injection hcs with hcs
    subst hcs
    exact ⟨none, [], 0, rfl, by simp [maxLen], Rd.nil _ _ _⟩
  · injection hcs with hcs
    subst hcs
    have hz' : zs.length = c := by simpa using hz
    have hll : ((zs.take len).map fun n => UInt8.ofNat n.toNat).length = len := by rw [List.length_map, List.length_take]; omega
    refine ⟨some x, (zs.take len).map fun n => UInt8.ofNat n.toNat, c, by rw [hll], by omega, fun hn => ?_⟩
    have hn' : 0 < len := by
      rw [List.length_map, hll] at hn
      exact hn
    have hb : x.block < w.heap.size := by
      have h0 := hcell 0 (by omega)
      rw [add_zero] at h0
      exact World.block_lt_of_cell? w x h0
    refine ⟨x, rfl, trivial, hb, fun j u hu => ?_⟩
    have hj : j < len := by
      have := (List.getElem?_eq_some_iff.1 hu).1
      rw [List.length_map, hll] at this
      exact this
    rw [hcell j (by omega), ← hu]
    have hjz : j < zs.length := by omega
    have hw := wf_u8 (hwz zs[j] (List.getElem_mem hjz))
    simp [bv, hj, List.getD, hjz]
    omega

/-- A slice of Booleans. -/
theorem open_boolsl {fuel : Nat} {v : Value} {y : DataW H × List MemPlace} (h : DataW.trod enc Try.prog w 0 (fun _ => true) true fuel 37 [v] = some y) :
    ∃ (B : Option Addr) (l : List Bool) (c : Nat), v = .slice B l.length c ∧ l.length ≤ maxLen ∧ Rd All w B (l.map Value.bool) := by
  rcases open_bools Try.underlying37 Try.underlying4 (by kernel_rfl) h with ⟨hcs, _⟩ | ⟨x, len, c, Z, hcs, _, hl, hm, _, hcell⟩
  · injection hcs with hcs
    subst hcs
    exact ⟨none, [], 0, rfl, by simp [maxLen], Rd.nil _ _ _⟩
  · injection hcs with hcs
    subst hcs
    refine ⟨some x, (List.range len).map Z, c, by simp, by simp; omega, fun hn => ?_⟩
    have hn' : 0 < len := by simpa using hn
    have hb : x.block < w.heap.size := by
      have h0 := hcell 0 (by omega)
      rw [add_zero] at h0
      exact World.block_lt_of_cell? w x h0
    refine ⟨x, rfl, trivial, hb, fun j u hu => ?_⟩
    have hj : j < len := by
      have := (List.getElem?_eq_some_iff.1 hu).1
      simpa using this
    rw [hcell j (by omega), ← hu]
    simp [hj]

end
end Go.Proofs.Ytjmehamkpmimkaa
