/- Octets to a string and back, as the walk meets them. -/
import Derived.Test.YtpjpmlhnhcmacaaBase
import Derived.Lib.ConvBytes
import Derived.Laws.BytesArg
import Derived.WalkSpells
import Derived.Lib.SlBytesConst
namespace Go.Proofs.Ytpjpmlhnhcmacaa
open Go.RowKit

/-- The string of octets. -/
def str (l : List UInt8) : ByteArray := ⟨l.toArray⟩
theorem str_list (l : List UInt8) : (str l).data.toList = l := rfl
theorem str_size (l : List UInt8) : (str l).size = l.length := by simp [str, ByteArray.size]
theorem str_inj {a b : List UInt8} (h : str a = str b) : a = b := by
  have := congrArg (fun x : ByteArray => x.data.toList) h
  exact this
theorem str_eta (s : ByteArray) : str s.data.toList = s := by
  unfold str
  cases s
  rfl
theorem str_append (a b : List UInt8) : str a ++ str b = str (a ++ b) := by
  apply ByteArray.ext
  simp [str]

theorem Mod.bytes {F : Nat → Prop} {a w : World} (h : Mod F a w) (e : TypeId) (s : ByteArray) : Mod F a (Lib.bytesWorld w e s) :=
  ⟨h.os, h.tape, h.output, by rw [Lib.bytesWorld_size]; have := h.size; omega, fun i hi hn => (Lib.bytesWorld_at_old w e s i (Nat.lt_of_lt_of_le hi h.size)).trans (h.block i hi hn)⟩

theorem Rd.bytes (w : World) (e : TypeId) (s : ByteArray) : Rd (fun b => w.heap.size ≤ b) (Lib.bytesWorld w e s) (some ⟨w.heap.size, 0, none⟩) (s.data.toList.map bv) := fun _ => by
  refine ⟨_, rfl, Nat.le_refl _, by rw [Lib.bytesWorld_size]; show w.heap.size < _; omega, fun j u hu => ?_⟩
  have hlen : s.data.toList.length = s.size := Array.length_toList
  have hj : j < s.size := by
    have := (List.getElem?_eq_some_iff.1 hu).1
    rw [List.length_map] at this
    omega
  have e1 : (⟨w.heap.size, 0, none⟩ : Addr).add j = ⟨w.heap.size, j, none⟩ := by unfold Addr.add; split <;> simp_all
  rw [e1, Lib.bytesWorld_cell w e s j hj, ← hu]
  simp [bv, List.getD, hj]

end Go.Proofs.Ytpjpmlhnhcmacaa
