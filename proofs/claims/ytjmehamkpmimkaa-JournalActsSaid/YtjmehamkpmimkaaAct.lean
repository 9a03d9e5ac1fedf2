/- The acts of the laws of layer 3, as they lie in memory; which are small; what an act writes. -/
import Derived.Test.YtjmehamkpmimkaaDskAw
namespace Go.Proofs.Ytjmehamkpmimkaa
open Go.RowKit

/-- An act of the laws of layer 3. -/
structure Act3 where
  kind : Int
  n : Int
  m : Int
  b : List UInt8
  keep : List Bool

/-- The cells of an act. -/
def ActAt (S : Nat → Prop) (w : World) (b off : Nat) (a : Act3) : Prop :=
  w.cell? ⟨b, off, none⟩ = some (.int .i64 a.kind) ∧ w.cell? ⟨b, off + 1, none⟩ = some (.int .i64 a.n) ∧ w.cell? ⟨b, off + 2, none⟩ = some (.int .i64 a.m) ∧
  (∃ B c, w.cell? ⟨b, off + 3, none⟩ = some (.slice B a.b.length c) ∧ a.b.length ≤ maxLen ∧ Rd S w B (a.b.map bv)) ∧
  ∃ K c, w.cell? ⟨b, off + 4, none⟩ = some (.slice K a.keep.length c) ∧ a.keep.length ≤ maxLen ∧ Rd S w K (a.keep.map Value.bool)

def ActsAt (S : Nat → Prop) (w : World) (A : Option Addr) (l : List Act3) : Prop :=
  0 < l.length → ∃ b o, A = some ⟨b, o, none⟩ ∧ S b ∧ b < w.heap.size ∧ ∀ (i : Nat) (a : Act3), l[i]? = some a → ActAt S w b (o + i * 5) a

theorem ActAt.keep_ {S F : Nat → Prop} {w w' : World} {b off : Nat} {a : Act3} (h : ActAt S w b off a) (hb : b < w.heap.size) (hs : S b) (hm : Mod F w w') (hS : ∀ b, S b → ¬ F b) : ActAt S w' b off a := by
  obtain ⟨h0, h1, h2, ⟨B, c, h3, h4, h5⟩, K, d, h6, h7, h8⟩ := h
  have hk : ∀ o, w'.cell? ⟨b, o, none⟩ = w.cell? ⟨b, o, none⟩ := fun o => hm.cell hb (hS _ hs)
  exact ⟨(hk _).trans h0, (hk _).trans h1, (hk _).trans h2, ⟨B, c, (hk _).trans h3, h4, h5.keep hm hS⟩, K, d, (hk _).trans h6, h7, h8.keep hm hS⟩

theorem ActsAt.keep {S F : Nat → Prop} {w w' : World} {A : Option Addr} {l : List Act3} (h : ActsAt S w A l) (hm : Mod F w w') (hS : ∀ b, S b → ¬ F b) : ActsAt S w' A l := fun hn => by
  obtain ⟨b, o, e, hs, hb, hf⟩ := h hn
  exact ⟨b, o, e, hs, Nat.lt_of_lt_of_le hb hm.size, fun i f hi => (hf i f hi).keep_ hb hs hm hS⟩

/-- Which acts are small. -/
def actSmall (a : Act3) : Bool := a.b.length ≤ 100 && a.keep.length ≤ 40
def actsSmall (l : List Act3) : Bool := l.length ≤ 40 && l.all actSmall

/-- What an act writes. -/
def Act3.octets (a : Act3) : List UInt8 := match a.b with | [x] => List.replicate 64 x | l => l

theorem Act3.octets_one {a : Act3} {x : UInt8} (h : a.b = [x]) : a.octets = List.replicate 64 x := by unfold Act3.octets; rw [h]
theorem Act3.octets_other {a : Act3} (h : a.b.length ≠ 1) : a.octets = a.b := by
  unfold Act3.octets
  split
  · rename_i x hx
    rw [hx] at h
    exact absurd rfl h
  · rfl

/-- The value of an act. -/
def actVal (a : Act3) (B K : Option Addr) (c d : Nat) : Value := .agg #[.int .i64 a.kind, .int .i64 a.n, .int .i64 a.m, .slice B a.b.length c, .slice K a.keep.length d]

set_option maxHeartbeats 1600000 in
set_option maxRecDepth 100000 in
theorem actOctets_any (S : Nat → Prop) (a : Act3) (B K : Option Addr) (c d : Nat) (w : World) (hl : a.b.length ≤ maxLen) (hr : Rd S w B (a.b.map bv)) (hS : ∀ k, S k → k < w.heap.size) :
    Calls Try.prog 26 #[actVal a B K c d] w fun r w' => ∃ A c', r = .returned (.slice A a.octets.length c') ∧ Rd (fun k => S k ∨ w.heap.size ≤ k) w' A (a.octets.map bv) ∧ Mod Nil w w' := by
  obtain ⟨i0, hi, hz0, hz1, hz2⟩ := info_parts u8_info
  unfold actVal
  by_cases h1 : a.b.length = 1
  · obtain ⟨x, hx⟩ : ∃ x, a.b = [x] := List.length_eq_one_iff.1 h1
    rw [Act3.octets_one hx, List.length_replicate]
    rw [hx] at hr
    obtain ⟨ad, rfl, _, hadl, hcell⟩ := hr.at_ (k := 0) (u := bv x) rfl
    rw [add_zero] at hcell
    rw [h1]
    have HBLK := Lib.hid (Blk.new w 39 #[.int .i64 a.kind, .int .i64 a.n, .int .i64 a.m, .slice (some ad) 1 c, .slice K a.keep.length d])
    have hm0 : Mod Nil w (w.alloc (.cells #[.int .i64 a.kind, .int .i64 a.n, .int .i64 a.m, .slice (some ad) 1 c, .slice K a.keep.length d] 39)) := (Mod.refl _ _).alloc _
    have HM0 := Lib.hid hm0
    have HCELL := Lib.hid ((hm0.cell (p := ad) hadl id).trans hcell)
    have hsz0 : w.heap.size < (w.alloc (.cells #[.int .i64 a.kind, .int .i64 a.n, .int .i64 a.m, .slice (some ad) 1 c, .slice K a.keep.length d] 39)).heap.size := by simp
    have HSZ := Lib.hid hsz0
    clear hr hx hcell hm0 hsz0 h1 hl
    unfold bv at HCELL
    go_enter Try.func26, Try.ntmps26
    go_wp2_with fail
    obtain ⟨w0, hw0⟩ : ∃ w0, w0 = (w.alloc (.cells #[.int .i64 a.kind, .int .i64 a.n, .int .i64 a.m, .slice (some ad) 1 c, .slice K a.keep.length d] 39)) := ⟨_, rfl⟩
    rw [← hw0] at HBLK HM0 HCELL HSZ ⊢
    clear hw0
    go_loopw [3, 4] (fun vv iv wr => ∃ (k : Nat) (v : Value), k ≤ 64 ∧ iv = .int .i64 k ∧ vv = v ∧ wr.ownsRow w.heap.size 5 1 v k ((List.replicate k x).map bv) ∧ Mod Nil w0 wr ∧ ∀ j, v.ownBlock = some j → w0.heap.size ≤ j) (fun _ v _ => 64 - (intOf v).toNat)
    case atStart => exact ⟨0, _, Nat.zero_le _, rfl, rfl, World.ownsRow_nil _ _ _ _, Mod.refl _ _, fun _ h => by cases h⟩
    case round =>
      obtain ⟨k, v, hk, rfl, rfl, ho, hm, hv⟩ := hrel
      obtain ⟨A', c', rfl, _, _⟩ := own_slice ho
      have hc3 : wr.cell? ⟨w.heap.size, 3, none⟩ = some (.slice (some ad) 1 c) := (HBLK.out.keep hm id).cell 3
      have hcx := (hm.cell (p := ad) (Nat.lt_trans hadl HSZ.out) id).trans HCELL.out
      have HO := Lib.hid ho
      have HM := Lib.hid hm
      have HV := Lib.hid hv
      clear ho hm hv
      by_cases hlt : k < 64
      · have HREP := Lib.hid (show (List.replicate k x).map bv ++ [bv x] = (List.replicate (k + 1) x).map bv by rw [List.replicate_succ', List.map_append]; rfl)
        go_wp2_with (at_builtin; refine wpList_append1' _ rfl (.tmp 15) (.tmp 20) 36 rfl w.heap.size 5 i0 (.int .u8 0) 1 Try.underlying36 hi hz0 hz1 hz2 rfl (.slice A' k c') k ((List.replicate k x).map bv) rfl (own_keep HO.out ((Mod.refl Nil wr).alloc _) (fun _ _ => id)) All _ 1 1 [bv x] rfl rfl (Rd.cells1 _ _ _) (by intro u hu; obtain rfl := List.mem_singleton.1 hu; rfl) (by omega) (by simp only [maxLen]; omega) (by have := HM.out.size; have := HSZ.out; simp; omega) ?_; intro A2 c2 w2 hown2 hmod2 hat2; have HO2 := Lib.hid hown2; have HM2 := Lib.hid ((HM.out.alloc _).trans' hmod2 (H := Nil) (fun _ _ h => h) (fun j hj hjv => absurd hj (by have := HV.out j hjv; omega))); have HV2 := Lib.hid (show ∀ j, (Value.slice A2 (k + 1) c2).ownBlock = some j → w0.heap.size ≤ j from fun j hj => (hat2 j hj).elim (HV.out j) (fun h => Nat.le_trans (HM.out.alloc _).size h)); clear hown2 hmod2 hat2)
        go_roundw
        case rel => exact ⟨k + 1, _, by omega, by go_num, rfl, by rw [← HREP.out]; exact HO2.out, HM2.out, HV2.out⟩
        case measure => simp [intOf] <;> omega
      · obtain rfl : k = 64 := by omega
        go_wp2_with fail
        go_ret
        exact ⟨_, _, rfl, (Rd.of_own HO.out).mono (fun _ _ h => .inr h), HM0.out.trans HM.out⟩
  · have hb : ((a.b.length : Int) != 1) = true := by simp; omega
    rw [Act3.octets_other h1]
    have HR := Lib.hid hr
    clear hr
    go_enter Try.func26, Try.ntmps26
    go_wp2_with fail
    go_ret
    exact ⟨_, _, rfl, ((HR.out.keep0 ((Mod.refl Nil w).alloc _)).mono fun _ _ h => .inl h), (Mod.refl _ _).alloc _⟩
end Go.Proofs.Ytjmehamkpmimkaa
