/- Octets to a string and back, as the walk meets them. -/
import Derived.Test.YtpjpmlhnhcmacaaGreatDoorBase
import Derived.Lib.ConvBytes
import Derived.Laws.BytesArg
import Derived.WalkSpells
import Derived.Lib.SlBytesConst
namespace Go.Proofs.YtpjpmlhnhcmacaaGreatDoor
open Go.RowKit

/-- The string of octets. -/
def str (l : List UInt8) : ByteArray := ⟨l.toArray⟩
theorem str_list (l : List UInt8) : (str l).data.toList = l := rfl
theorem str_size (l : List UInt8) : (str l).size = l.length := by simp [str, ByteArray.size]
theorem str_inj {a b : List UInt8} (h : str a = str b) : a = b := by
  have := congrArg (fun x : ByteArray => x.data.toList) h
  exact this
theorem str_eta (s : ByteArray) : str s.data.toList = s := by
  unfold str
  cases s
  rfl
theorem str_append (a b : List UInt8) : str a ++ str b = str (a ++ b) := by
  apply ByteArray.ext
  simp [str]

theorem conv_bytes {S : Nat → Prop} {w : World} {A : Option Addr} {l : List UInt8} {n : Nat} (h : Rd S w A (l.map bv)) (hn : l.length = n) (c : Nat) :
    (convert 48 9 (.slice A n c)).run Tryz.prog w = .ok (.string (str l)) w := by
  subst hn
  rw [run_convert_bytes_string w 48 9 5 A l.length c Tryz.underlying48 Tryz.underlying5 Tryz.underlying9]
  rcases A with _ | ad
  · have hl : l = [] := by
      rcases l with _ | ⟨x, l⟩
      · rfl
      · obtain ⟨_, h0, _⟩ := h (by simp)
        cases h0
    subst hl
    simp [Conv.bytesToString]
    rfl
  · have hc : (loadCells ad l.length).run Tryz.prog w = .ok ((l.map fun u => (u.toNat : Int)).map (Value.int .u8)).toArray w := by
      have := run_loadCells_list (P := Tryz.prog) w ad (l.map bv) (fun j v hj => by
        obtain ⟨ad', h0, _, _, hc⟩ := h (by have := (List.getElem?_eq_some_iff.1 hj).1; omega)
        injection h0 with h0
        subst h0
        exact hc j v hj)
      rw [List.length_map] at this
      rw [this, List.map_map]
      rfl
    rw [run_bytesToString w ad l.length c _ hc, foldl_push_bytes]
    have : (List.map (fun n : Int => UInt8.ofNat n.toNat) (List.map (fun u : UInt8 => (u.toNat : Int)) l)) = l := by
      rw [List.map_map]
      conv => rhs; rw [← List.map_id l]
      apply List.map_congr_left
      intro u _
      simp
    rw [this]
    simp [str, ByteArray.empty, ByteArray.emptyWithCapacity]
    rfl

theorem conv_string (w : World) (s : ByteArray) :
    (convert 9 48 (.string s)).run Tryz.prog w = .ok (.slice (some ⟨w.heap.size, 0, none⟩) s.size (grownCap w s.size 0 5)) (Lib.bytesWorld w 5 s) :=
  Lib.run_convert_string_bytes w _ _ _ s Tryz.underlying9 Tryz.underlying48 Tryz.underlying5

theorem Mod.bytes {F : Nat → Prop} {a w : World} (h : Mod F a w) (e : TypeId) (s : ByteArray) : Mod F a (Lib.bytesWorld w e s) :=
  ⟨h.os, h.tape, h.output, by rw [Lib.bytesWorld_size]; have := h.size; omega, fun i hi hn => (Lib.bytesWorld_at_old w e s i (Nat.lt_of_lt_of_le hi h.size)).trans (h.block i hi hn)⟩

theorem Rd.bytes (w : World) (e : TypeId) (s : ByteArray) : Rd (fun b => w.heap.size ≤ b) (Lib.bytesWorld w e s) (some ⟨w.heap.size, 0, none⟩) (s.data.toList.map bv) := fun _ => by
  refine ⟨_, rfl, Nat.le_refl _, by rw [Lib.bytesWorld_size]; show w.heap.size < _; omega, fun j u hu => ?_⟩
  have hlen : s.data.toList.length = s.size := Array.length_toList
  have hj : j < s.size := by
    have := (List.getElem?_eq_some_iff.1 hu).1
    rw [List.length_map] at this
    omega
  have e1 : (⟨w.heap.size, 0, none⟩ : Addr).add j = ⟨w.heap.size, j, none⟩ := by unfold Addr.add; split <;> simp_all
  rw [e1, Lib.bytesWorld_cell w e s j hj, ← hu]
  simp [bv, List.getD, hj]

end Go.Proofs.YtpjpmlhnhcmacaaGreatDoor
