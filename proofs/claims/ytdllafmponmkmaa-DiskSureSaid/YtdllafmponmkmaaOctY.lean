/- Contracts of octet.Writer.Texts, and the law's example. -/
import Derived.Test.YtdllafmponmkmaaOctX
import Derived.LoopTactic
namespace Go.Proofs.Ytdllafmponmkmaa
open Go.RowKit

theorem wNum_len (n : Int) (s : WSt) : (wNum n s).1.length ≤ s.1.length + 4 := by
  unfold wNum wPut
  split
  · simp
  · split <;> simp [beBytes_len]
theorem wText_len (t : List UInt8) (s : WSt) : (wText t s).1.length ≤ s.1.length + 4 + t.length := by
  have := wNum_len t.length s
  unfold wText
  split
  · simp; omega
  · omega

/-- The strings' own lists of octets. -/
def octs (ts : List ByteArray) : List (List UInt8) := ts.map fun t => t.data.toList

set_option maxHeartbeats 1600000 in
set_option maxRecDepth 100000 in
theorem wtexts_any (B g : Nat) (v0 : Value) (s : WSt) (A : Option Addr) (n c M : Nat) (ts : List ByteArray) (w : World) (h : WrAt B w g v0 s) (hB : B ≤ w.heap.size) (hn : ts.length = n) (hr : Rd (fun b => ¬ Foot g v0 b) w A (ts.map Value.string))
    (hM : ∀ t ∈ ts, t.size ≤ M) (hbig : s.1.length + 4 + n * (4 + M) ≤ 1000000000) :
    Calls Try.prog 28 #[.pointer (some ⟨g, 0, none⟩), .slice A n c] w (WrPost B g w v0 (wTexts (octs ts) s)) := by
  have hn9 : n ≤ 1000000000 := by
    have : n ≤ n * (4 + M) := Nat.le_mul_of_pos_right n (by omega)
    omega
  have HC := Lib.hid (wnum_any B g v0 s n w h hB (by omega))
  have hl0 := wNum_len n s
  have HN := Lib.hid hn
  have HR := Lib.hid hr
  have HMx := Lib.hid hM
  clear h hn hr hM
  go_enter Try.func28, Try.ntmps28
  go_wp2_with fail
  refine HC.out.mono ?_
  rintro r w1 ⟨rfl, v1, hw, hm, hat1⟩
  have HW := Lib.hid hw
  have HM := Lib.hid hm
  have HAT1 := Lib.hid hat1
  clear hw hm hat1
  go_wp2_with fail
  go_loopw [12] (fun i wr => ∃ (k : Nat) (v : Value), k ≤ n ∧ i = .int .i64 k ∧ WrAt B wr g v ((octs (ts.take k)).foldl (fun s t => wText t s) (wNum n s)) ∧ ((octs (ts.take k)).foldl (fun s t => wText t s) (wNum n s)).1.length ≤ s.1.length + 4 + k * (4 + M) ∧ Mod (Foot g v0) w wr ∧ ∀ k, v.ownBlock = some k → v0.ownBlock = some k ∨ w.heap.size ≤ k) (fun v _ => n - (intOf v).toNat)
  case atStart => exact ⟨0, v1, Nat.zero_le _, rfl, HW.out, by simpa [octs] using hl0, HM.out, HAT1.out⟩
  case round =>
    obtain ⟨k, v, hk, rfl, hw, hlen, hm, hat⟩ := hrel
    have HWr := Lib.hid hw
    have HMr := Lib.hid hm
    have HAT := Lib.hid hat
    clear hw hm hat
    by_cases hlt : k < n
    · obtain ⟨t, ht⟩ : ∃ t, ts[k]? = some t := ⟨_, List.getElem?_eq_getElem (by rw [HN.out]; exact hlt)⟩
      have htM := HMx.out t (List.mem_of_getElem? ht)
      have hcell : (ts.map Value.string)[k]? = some (.string t) := by rw [List.getElem?_map, ht]; rfl
      obtain ⟨ad, rfl, hadB, hadl, _⟩ := HR.out.at_ hcell
      have hR' := (HR.out.keep HMr.out (fun b hb => hb)).at_ hcell
      obtain ⟨ad', e, _, _, hc⟩ := hR'
      injection e with e
      subst e
      obtain ⟨st, hst⟩ : ∃ st, st = (octs (ts.take k)).foldl (fun s t => wText t s) (wNum n s) := ⟨_, rfl⟩
      have hnext : (octs (ts.take (k + 1))).foldl (fun s t => wText t s) (wNum n s) = wText t.data.toList st := by
        rw [hst, List.take_add_one, ht]
        simp [octs]
      rw [← hst] at HWr hlen
      have hlen2 := wText_len t.data.toList st
      have htl : t.data.toList.length = t.size := Array.length_toList
      rw [htl] at hlen2
      have hmul : (k + 1) * (4 + M) = k * (4 + M) + (4 + M) := by rw [Nat.add_mul, Nat.one_mul]
      have hmul2 : (k + 1) * (4 + M) ≤ n * (4 + M) := Nat.mul_le_mul_right _ (by omega)
      have hb1 : st.1.length + 4 + t.size ≤ 1000000000 := by omega
      have hlen3 : (wText t.data.toList st).1.length ≤ s.1.length + 4 + (k + 1) * (4 + M) := by omega
      have HNX := Lib.hid hnext
      have HL3 := Lib.hid hlen3
      clear hst hnext hlen hlen2 htl hmul hmul2 hlen3 ht hcell htM
      go_wp2_with fail
      refine (wtext_any B g v st t _ HWr.out (by have := HMr.out.size; omega) hb1).mono ?_
      rintro r w2 ⟨rfl, v2, hw2, hm2, hat2⟩
      have hmm : Mod (Foot g v0) w w2 := HMr.out.trans' hm2 (fun _ _ h => h) (fun j hj hjv => hjv.elim (fun h => .inl h) (fun h => (HAT.out j h).elim (fun h => .inr h) (fun h => by omega)))
      have hatt : ∀ k, v2.ownBlock = some k → v0.ownBlock = some k ∨ w.heap.size ≤ k := fun j hj => (hat2 j hj).elim (fun h => HAT.out j h) (fun h => .inr (by have := HMr.out.size; omega))
      have HW2 := Lib.hid hw2
      have HM2 := Lib.hid hmm
      have HAT2 := Lib.hid hatt
      clear hw2 hm2 hc hat2 hmm hatt
      go_wp2_with fail
      go_roundw
      case rel => exact ⟨k + 1, v2, by omega, by go_num, by rw [HNX.out]; exact HW2.out, by rw [HNX.out]; exact HL3.out, HM2.out, HAT2.out⟩
      case measure => simp [intOf] <;> omega
    · have hfin : (octs (ts.take k)).foldl (fun s t => wText t s) (wNum n s) = wTexts (octs ts) s := by
        rw [List.take_of_length_le (by rw [HN.out]; omega)]
        unfold wTexts
        rw [show (octs ts).length = n by rw [octs, List.length_map, HN.out]]
      rw [hfin] at HWr
      clear hfin hlen
      go_wp2_with fail
      go_end0
      exact ⟨rfl, v, HWr.out, HMr.out, HAT.out⟩

end Go.Proofs.Ytdllafmponmkmaa
