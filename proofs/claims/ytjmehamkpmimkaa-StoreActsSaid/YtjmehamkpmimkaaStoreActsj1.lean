/- Parts of the proof of StoreActs, joined: CrcX DskL DskW DskX DskY DskZ. -/
import Derived.Test.YtjmehamkpmimkaaStoreActsj0
import Derived.Deep.RegionWith
import Derived.BigRegion
import Derived.Lib.Strings
import Derived.Laws.CopyOwn
namespace Go.Proofs.Ytjmehamkpmimkaa
open Go.RowKit

def sealed (l : List UInt8) : List UInt8 := l ++ sumOctets (crcSum l)

set_option maxHeartbeats 800000 in
theorem seal_any (S : Nat → Prop) (A : Option Addr) (n c : Nat) (l : List UInt8) (w : World) (hn : l.length = n) (hbig : n ≤ 1000000000) (hr : Rd S w A (l.map bv)) :
    Calls Try.prog 77 #[.slice A n c] w fun e w' => ∃ v, e = .returned v ∧ w'.ownsRow w.heap.size 5 1 v (n + 4) ((sealed l).map bv) ∧ Mod Nil w w' := by
  obtain ⟨i0, hi, hz0, hz1, hz2⟩ := info_parts u8_info
  have HR := Lib.hid hr
  have HN := Lib.hid hn
  clear hr hn
  go_enter Try.func77, Try.ntmps77
  go_wp2_with fail
  refine (clone_any S A n c l _ HN.out (by omega) HR.out).mono ?_
  rintro e w1 ⟨v1, rfl, hown1, hm1⟩
  have HO1 := Lib.hid hown1
  have HM1 := Lib.hid hm1
  clear hown1 hm1
  go_wp2_with fail
  refine (sum_any All _ 1 1 [l] _ rfl (by simp) (parts_one (HR.out.keep0 HM1.out) HN.out (by simp [maxLen]; omega) (by simp))).mono ?_
  rintro e w2 ⟨rfl, rfl⟩
  go_wp2_with fail
  refine (octets_any _ _ (by have := crcSum_lt l; simpa using this)).mono ?_
  rintro e w3 ⟨v3, rfl, hown3, hm3⟩
  have hm03 : Mod Nil w1 w3 := ((Mod.refl _ _).alloc _).trans hm3
  have HO1' := Lib.hid (own_keep HO1.out hm03 (fun _ _ => id))
  have hs1 := HM1.out.size
  have hs3 := hm03.size
  obtain ⟨A3, c3, rfl, _, _⟩ := own_slice hown3
  have hR3 := Lib.hid (Rd.of_own hown3)
  go_wp2_with (at_builtin; refine wpList_append1 _ rfl _ _ 36 rfl w.heap.size 5 i0 (.int .u8 0) 1 Try.underlying36 hi hz0 hz1 hz2 rfl _ _ _ rfl HO1'.out _ A3 4 c3 _ rfl ?qc1 hR3.out (bv_one _) ?qc4 ?qc5 ?qc6 ?_)
  case qc1 => simp [sumOctets]
  case qc4 => omega
  case qc5 => simp only [maxLen]; omega
  case qc6 => omega
  intro v' w4 hown hgrow hat
  go_wp2
  go_ret
  refine ⟨v', rfl, by simpa [sealed] using hown, ?_⟩
  refine ((HM1.out.trans hm03).trans' (Mod.of_grown hgrow) (fun _ _ h => h) (fun i hi e => ?_))
  have := (HO1.out.lt i e).1
  omega

theorem beq_decide {α : Type} [BEq α] [LawfulBEq α] [DecidableEq α] (a b : α) : (a == b) = decide (a = b) := by
  by_cases h : a = b
  · rw [decide_eq_true h]; exact beq_iff_eq.2 h
  · rw [decide_eq_false h]; exact beq_eq_false_iff_ne.2 h

set_option maxHeartbeats 800000 in
theorem equal_any (S S' : Nat → Prop) (A B : Option Addr) (n c m d : Nat) (l k : List UInt8) (w : World) (hn : l.length = n) (hm : k.length = m) (hr : Rd S w A (l.map bv)) (hr' : Rd S' w B (k.map bv)) :
    Calls Try.prog 57 #[.slice A n c, .slice B m d] w fun e w' => e = .returned (.bool (decide (l = k))) ∧ w = w' := by
  have k1 := conv_bytes hr hn c
  have k2 := conv_bytes hr' hm d
  clear hr hr' hn hm
  go_enter Try.func57, Try.ntmps57
  go_wp2
  go_ret
  refine ⟨ret_bool ?_, rfl⟩
  rw [ByteArray.toList_eq, ByteArray.toList_eq, str_list, str_list]
  exact beq_decide l k

theorem tmod_small (a n : Int) (hn : 0 < n) : -n < a.tmod n ∧ a.tmod n < n := by
  have h1 := Int.tmod_lt_of_pos a hn
  have h2 := Int.lt_tmod_of_pos a hn
  omega
theorem tmod_rest (a n : Int) : (a.tmod n + n) % n = a % n := by
  rw [Int.add_emod_right, Int.tmod_def, Int.sub_mul_emod_self_left]

set_option maxHeartbeats 800000 in
theorem rest_any (a n : Int) (w : World) (hn : 0 < n) (hn' : n ≤ 1000000) :
    Calls Try.prog 13 #[.int .i64 a, .int .i64 n] w fun e w' => e = .returned (.int .i64 (a % n)) ∧ w = w' := by
  have h := tmod_small a n hn
  have h1 := h.1
  have h2 := h.2
  clear h
  have hz : (n == 0) = false := by simp; omega
  go_enter Try.func13, Try.ntmps13
  go_wp2
  go_ret
  exact ⟨ret_int (tmod_rest a n), rfl⟩

theorem sumOctets_cells (n : Nat) (h : n < 4294967296) : (sumOctets n).map bv = #[Value.int IntKind.u8 ((n : Int) % 256), Value.int IntKind.u8 ((n : Int) / 256 % 256), Value.int IntKind.u8 ((n : Int) / 65536 % 256), Value.int IntKind.u8 ((n : Int) / 16777216)].toList := by
  simp [sumOctets, bv]; omega

set_option maxHeartbeats 800000 in
set_option maxRecDepth 100000 in
theorem refSeal_any (s : ByteArray) (w : World) (hs : s.size ≤ 1000000000) :
    Calls Try.prog 82 #[.string s] w fun e w' => e = .returned (.string (str (sealed s.data.toList))) ∧ Mod Nil w w' := by
  have hlt := crcSum_lt s.data.toList
  obtain ⟨n, hn⟩ : ∃ n, n = crcSum s.data.toList := ⟨_, rfl⟩
  have hrd := Rd.cells w #[Value.int IntKind.u8 ((n : Int) % 256), Value.int IntKind.u8 ((n : Int) / 256 % 256), Value.int IntKind.u8 ((n : Int) / 65536 % 256), Value.int IntKind.u8 ((n : Int) / 16777216)] 5 (0, 0) rfl
  rw [← hn] at hlt
  rw [← sumOctets_cells n hlt] at hrd
  have kb := conv_bytes hrd (n := 4) rfl 4
  have hc := refSum_any s w (by unfold maxLen; omega)
  rw [← hn] at hc
  have HC := Lib.hid hc
  have HN := Lib.hid hn
  clear hc hn hrd
  have hsz : (str (sumOctets n)).size = 4 := rfl
  go_enter Try.func82, Try.ntmps82
  go_wp2_with fail
  refine HC.out.mono ?_
  rintro e w2 ⟨rfl, rfl⟩
  go_wp2_with fail
  go_ret
  refine ⟨?_, (Mod.refl _ _).alloc _⟩
  show Ending.returned (.string (s ++ str (sumOctets n))) = _
  rw [HN.out]
  conv => lhs; rw [← str_eta s, str_append]
  rfl

set_option maxHeartbeats 800000 in
set_option maxRecDepth 100000 in
theorem refOpen_any (s : ByteArray) (w : World) (hs : s.size ≤ 1000000000) :
    Calls Try.prog 83 #[.string s] w fun e w' => e = .returned (.tuple (if s.size < 4 then #[.string ⟨#[]⟩, .int .i64 10] else if sealed (s.data.toList.take (s.size - 4)) = s.data.toList then #[.string (str (s.data.toList.take (s.size - 4))), .int .i64 0] else #[.string ⟨#[]⟩, .int .i64 12])) ∧ Mod Nil w w' := by
  by_cases h4 : s.size < 4
  · rw [if_pos h4]
    go_enter Try.func83, Try.ntmps83
    go_wp2_with fail
    go_ret2
    exact ⟨rfl, Mod.refl _ _⟩
  · rw [if_neg h4]
    go_enter Try.func83, Try.ntmps83
    have hx : (s.extract 0 (s.size - 4)).data.toList = s.data.toList.take (s.size - 4) := by rw [Lib.extract_data]; simp
    have hxs : (s.extract 0 (s.size - 4)).size ≤ 1000000000 := by simp; omega
    have hc := refSeal_any (s.extract 0 (s.size - 4)) w hxs
    rw [hx] at hc
    have HC := Lib.hid hc
    have HX := Lib.hid hx
    clear hc hx hxs
    by_cases hsl : sealed (s.data.toList.take (s.size - 4)) = s.data.toList
    · have hb : ((str (sealed (s.data.toList.take (s.size - 4)))).toList == s.toList) = true := by
        rw [ByteArray.toList_eq, ByteArray.toList_eq, str_list]; exact beq_iff_eq.2 hsl
      rw [if_pos hsl]
      clear hsl
      go_wp2_with fail
      refine HC.out.mono ?_
      rintro e w1 ⟨rfl, hm⟩
      have HM := Lib.hid hm
      clear hm
      go_wp2_with fail
      go_ret2
      refine ⟨?_, HM.out⟩
      have h := HX.out
      show Ending.returned (.tuple #[.string (s.extract 0 (s.size - 4)), .int .i64 0]) = _
      rw [← h, str_eta]
    · have hb : ((str (sealed (s.data.toList.take (s.size - 4)))).toList == s.toList) = false := by
        rw [ByteArray.toList_eq, ByteArray.toList_eq, str_list]; exact beq_eq_false_iff_ne.2 hsl
      rw [if_neg hsl]
      clear hsl
      go_wp2_with fail
      refine HC.out.mono ?_
      rintro e w1 ⟨rfl, hm⟩
      have HM := Lib.hid hm
      clear hm
      go_wp2_with fail
      go_ret2
      exact ⟨rfl, HM.out⟩

set_option maxHeartbeats 800000 in
set_option maxRecDepth 100000 in
theorem open_short (A : Option Addr) (n c : Nat) (w : World) (hn : n < 4) :
    Calls Try.prog 81 #[.slice A n c] w fun e w' => e = .returned (.tuple #[.slice none 0 0, .int .i64 10]) ∧ w = w' := by
  go_enter Try.func81, Try.ntmps81
  go_wp2_with fail
  go_ret2
  exact ⟨rfl, rfl⟩

end Go.Proofs.Ytjmehamkpmimkaa

namespace Go.Proofs.Ytjmehamkpmimkaa
open Go.RowKit

theorem Mod.setRow {F : Nat → Prop} {a w : World} (h : Mod F a w) {g : Nat} (hg : F g) (cs : Array Value) : Mod F a (w.setRow g cs) :=
  ⟨h.os, h.tape, h.output, by simpa [World.setRow] using h.size, fun i hi hn => (setRow_other w g i cs (fun e => hn (e ▸ hg))).trans (h.block i hi hn)⟩

section
variable {P : Program}
theorem step_copy1 {ops : Array Oper} {o : Oper} {a : Act} {w : World} {K : Act → World → Prop} {Q : Exit → Act → World → Prop} {E : Prop} (hgd : o.guard = none) (d s : Operand) (dT sT : TypeId)
    (ho : o.op = .call { callee := .builtin .copy, args := #[d, s], argTypes := #[dT, sT] }) (elem : TypeId) (hu : P.underlying dT = some (.slice elem)) (hsz : (P.info? elem).map (·.size) = some 1)
    (dp sp : Option Addr) (dLen dCap sLen sCap : Nat) (hd : a.eval d = .slice dp dLen dCap) (hs : a.eval s = .slice sp sLen sCap)
    (g off : Nat) (cur : List Value) (t : TypeId) (hg : w.heap[g]? = some (.cells cur.toArray t (0, 0))) (cs : List Value) (hn : cs.length = Nat.min sLen dLen)
    (hpos : 0 < cs.length → dp = some ⟨g, off, none⟩ ∧ ∃ ad, sp = some ad ∧ ∀ j v, cs[j]? = some v → w.cell? (ad.add j) = some v)
    (hfit : off + cs.length ≤ cur.length) (h1 : ∀ v ∈ cs, v.oneCell' = true)
    (h : ∀ w', RowKit.Hid (w'.heap[g]? = some (.cells (splice cur off cs).toArray t (0, 0))) → Hid (Mod (fun k => k = g) w w') → K (a.put o.dst (goInt cs.length)) w') :
    if Region.wanted o (yielded ops a.tmps) = true then Oper.wp P o a w K Q else E := by
  have hw : Region.wanted o (yielded ops a.tmps) = true := by simp [Region.wanted, hgd]
  rw [if_pos hw]
  by_cases h0 : cs.length = 0
  · obtain rfl : cs = [] := List.eq_nil_of_length_eq_zero h0
    have hrun := run_copy_none (P := P) w dT sT o.type elem dp sp dLen dCap sLen sCap hu hsz (by simpa using hn.symm)
    unfold Oper.wp
    simp [execOp, ho, resolve, invoke, builtin, hd, hs, hrun, Result.andThen]
    exact h w (show _ = _ by simpa [splice] using hg) (Lib.hid (Mod.refl _ _))
  · obtain ⟨rfl, ad, rfl, hsrc⟩ := hpos (by omega)
    have hrun := run_copy_row (P := P) w dT sT o.type elem g off dLen dCap ad sLen sCap cur.toArray t cs hu hsz hg hn hsrc (by simpa using hfit) h1
    unfold Oper.wp
    simp [execOp, ho, resolve, invoke, builtin, hd, hs, hrun, Result.andThen]
    exact h _ (show _ = _ by simpa [splice] using setRow_heap w g _ _ t _ hg) (Lib.hid ((Mod.refl (fun k => k = g) w).setRow (g := g) rfl _))
end

/-- Octets laid over octets, from a place on. -/
def layB (S : List UInt8) (at_ : Nat) (b : List UInt8) : List UInt8 := splice S (64 * at_) b

theorem layB_length {S : List UInt8} {at_ : Nat} {b : List UInt8} (h : 64 * at_ + b.length ≤ S.length) : (layB S at_ b).length = S.length := length_splice _ _ _ h

theorem splice_map {α β : Type} (f : α → β) (L : List α) (off : Nat) (cs : List α) : (splice L off cs).map f = splice (L.map f) off (cs.map f) := by
  simp [splice, List.map_take, List.map_drop]

theorem take_splice {α : Type} (L : List α) (off : Nat) (cs : List α) (N : Nat) (h : off + cs.length ≤ N) (hN : N ≤ L.length) : (splice L off cs).take N = splice (L.take N) off cs := by
  have hoff : (L.take off).length = off := by rw [List.length_take]; omega
  unfold splice
  rw [List.take_append, List.take_append, hoff, List.take_take, List.take_take, Nat.min_eq_right (by omega), Nat.min_eq_left (by omega), List.take_of_length_le (l := cs) (by omega), List.drop_take]
  congr 3
  omega

/-- A row of the call's own behind a copy into it. -/
theorem own_splice {w w' : World} {B : Nat} {e : TypeId} {g N c : Nat} {xs cs : List Value} {off : Nat} {cur : Array Value} (h : w.ownsRow B e 1 (.slice (some ⟨g, 0, none⟩) N c) N xs)
    (hg : w.heap[g]? = some (.cells cur e (0, 0))) (hg' : w'.heap[g]? = some (.cells (splice cur.toList off cs).toArray e (0, 0))) (hfit : off + cs.length ≤ N) :
    w'.ownsRow B e 1 (.slice (some ⟨g, 0, none⟩) N c) N (splice xs off cs) := by
  have hl := h.1
  rcases h.2 with ⟨hv, _⟩ | ⟨g', cap, cur', hv, hb, hh, h1, h2, h3, h4⟩
  · cases hv
  · injection hv with hA hn hc
    injection hA with hA
    injection hA with hA
    subst hA hc
    rw [hg] at hh
    injection hh with hh
    injection hh with hh
    subst hh
    have hcl : cur.toList.length = c := by simp [h3]
    refine ⟨by rw [length_splice _ _ _ (by omega)]; exact hl, .inr ⟨g, c, _, rfl, hb, hg', h1, h2, ?_, ?_⟩⟩
    · rw [List.size_toArray, length_splice _ _ _ (by omega)]; omega
    · rw [List.toList_toArray]
      rw [take_splice _ _ _ _ (by omega) (by omega), h4]

theorem own_heap {w : World} {B : Nat} {e : TypeId} {g N c size : Nat} {xs : List Value} (h : w.ownsRow B e size (.slice (some ⟨g, 0, none⟩) N c) N xs) : ∃ cur : Array Value, w.heap[g]? = some (.cells cur e (0, 0)) ∧ N ≤ c ∧ c ≤ maxLen ∧ cur.size = c * size ∧ B ≤ g := by
  rcases h.2 with ⟨hv, _⟩ | ⟨g', cap, cur', hv, hb, hh, h1, h2, h3, h4⟩
  · cases hv
  · injection hv with hA hn hc
    injection hA with hA
    injection hA with hA
    subst hA hc
    exact ⟨cur', hh, h1, h2, h3, hb⟩

set_option maxHeartbeats 1600000 in
set_option maxRecDepth 100000 in
theorem lay_any (B gi N ci at_ xb cap n : Nat) (I l : List UInt8) (w : World) (hown : w.ownsRow B 5 1 (.slice (some ⟨gi, 0, none⟩) N ci) N (I.map bv)) (hrd : Rd All w (some ⟨xb, 0, none⟩) (l.map bv))
    (hl : l.length = 64) (hcap : 64 ≤ cap) (hcap2 : cap ≤ maxLen) (hat : 64 * at_ + 64 ≤ N) (hn : n ≤ 64) (hN : N ≤ 4194304) :
    Calls Try.prog 66 #[.agg #[.int .i64 at_, .slice (some ⟨xb, 0, none⟩) 64 cap], .slice (some ⟨gi, 0, none⟩) N ci, .int .i64 n] w fun r w' =>
      r = .returned (.tuple #[]) ∧ w'.ownsRow B 5 1 (.slice (some ⟨gi, 0, none⟩) N ci) N ((layB I at_ (l.take n)).map bv) ∧ Mod (fun k => k = gi) w w' := by
  obtain ⟨cur, hg, hc1, hc2, hcs, hB⟩ := own_heap hown
  have hgl : gi < w.heap.size := (Array.getElem?_eq_some_iff.1 hg).1
  have HOWN := Lib.hid hown
  have HRD := Lib.hid hrd
  have hw64 : IntKind.i64.wrap ((at_ : Int) * 64) = (at_ : Int) * 64 := IntWalk.i64_in _ (by omega)
  have hmax : maxLen = 9223372036854775807 := rfl
  have HG := Lib.hid hg
  have HRC := Lib.hid (show ∀ (j : Nat) (u : Value), ((l.take n).map bv)[j]? = some u → ((w.alloc (.cells #[.int .i64 at_, .slice (some ⟨xb, 0, none⟩) 64 cap] 103)).drew).cell? ((⟨xb, 0, none⟩ : Addr).add j) = some u from fun j u hu => by
    obtain ⟨ad, e, _, _, hc⟩ := (hrd.keep0 (((Mod.refl Nil w).alloc (.cells #[.int .i64 at_, .slice (some ⟨xb, 0, none⟩) 64 cap] 103)).drew)) (by simp; omega)
    injection e with e
    subst e
    refine hc j u ?_
    rw [List.map_take, List.getElem?_take] at hu
    split at hu
    · exact hu
    · cases hu)
  clear hown hrd hg
  go_enter Try.func66, Try.ntmps66
  go_wp2_with fail
  have h64 : (0 : Int) ≤ (at_ : Int) * 64 := by omega
  have h65 : (at_ : Int) * 64 ≤ N := by omega
  have h66 : ¬ (ci = 64 * at_) := by omega
  have hx : ((at_ : Int) * 64).toNat = 64 * at_ := by omega
  obtain ⟨cs, hcsd⟩ : ∃ cs, cs = (l.take n).map bv := ⟨_, rfl⟩
  have hcl : cs.length = n := by rw [hcsd, List.length_map, List.length_take]; omega
  have HCS := Lib.hid hcsd
  have H1 := Lib.hid (show ∀ v ∈ cs, v.oneCell' = true from hcsd ▸ bv_one _)
  clear hcsd
  have hnc : n ≤ cap := by omega
  have HWA := Lib.hid (((Mod.refl Nil w).alloc (.cells #[.int .i64 at_, .slice (some ⟨xb, 0, none⟩) 64 cap] 103)).drew)
  have HCUR := Lib.hid hcs
  go_region_law (refine step_copy1 rfl (.tmp 10) (.tmp 14) 36 36 rfl 5 Try.underlying36 (by kernel_rfl) (some ⟨gi, 64 * at_, none⟩) (some ⟨xb, 0, none⟩) (N - 64 * at_) (ci - 64 * at_) n cap rfl rfl gi (64 * at_) cur.toList 5 ((HWA.out.block gi hgl id).trans HG.out) cs (hcl.trans (Nat.min_eq_left (by omega)).symm) (fun _ => ⟨rfl, _, rfl, fun j u hu => HRC.out j u (HCS.out ▸ hu)⟩) (by have := HCUR.out; simp; omega) H1.out ?_; intro w2 HG2 HM2)
  all_goals
    go_end0
    refine ⟨rfl, ?_, (HWA.out.any.trans HM2.out)⟩
    have := own_splice HOWN.out HG.out HG2.out (by omega)
    rw [HCS.out, ← splice_map] at this
    exact this
end Go.Proofs.Ytjmehamkpmimkaa

namespace Go.Proofs.Ytjmehamkpmimkaa
open Go.RowKit

/-- What a disk is. -/
structure DSt where
  S : List UInt8
  ws : List (Nat × List UInt8)
  left : Int

/-- A write that waits, in memory. -/
structure Wt where
  at_ : Nat
  b : Nat
  cap : Nat
  l : List UInt8

def Wt.v (x : Wt) : Value := .slice (some ⟨x.b, 0, none⟩) 64 x.cap
def Wt.cells (x : Wt) : List Value := [.int .i64 x.at_, x.v]
def Wt.st (x : Wt) : Nat × List UInt8 := (x.at_, x.l)
def WtAt (B : Nat) (w : World) (vs : Value) (N : Nat) (x : Wt) : Prop := w.ownsRow B 5 1 x.v 64 (x.l.map bv) ∧ 64 * x.at_ + 64 ≤ N ∧ vs.ownBlock ≠ some x.b

def DF (g : Nat) (vs vw : Value) (wts : List Wt) (k : Nat) : Prop := k = g ∨ vs.ownBlock = some k ∨ vw.ownBlock = some k ∨ ∃ x ∈ wts, x.b = k

structure DskIs (B : Nat) (w : World) (g : Nat) (vs vw : Value) (wts : List Wt) (s : DSt) : Prop where
  blk : Blk w g 101 #[vs, vw, .int .i64 s.left]
  low : B ≤ g
  sure : w.ownsRow B 5 1 vs s.S.length (s.S.map bv)
  waits : w.ownsRow B 103 2 vw wts.length (wts.flatMap Wt.cells)
  all : ∀ x ∈ wts, WtAt B w vs s.S.length x
  st : s.ws = wts.map Wt.st
  pos : 0 < s.S.length
  big : s.S.length ≤ 4194304
  mod : s.S.length % 64 = 0

/-- A disk at g, in the blocks F. -/
def DskAt (B : Nat) (w : World) (g : Nat) (F : Nat → Prop) (s : DSt) : Prop := ∃ vs vw wts, F = DF g vs vw wts ∧ DskIs B w g vs vw wts s

theorem WtAt.blk {B N : Nat} {w : World} {vs : Value} {x : Wt} (h : WtAt B w vs N x) : ∃ cs, Blk w x.b 5 cs ∧ B ≤ x.b := by
  obtain ⟨cur, hh, _, _, _, hb⟩ := own_heap h.1
  exact ⟨_, hh, hb⟩
theorem DskIs.ne_sure {B : Nat} {w : World} {g : Nat} {vs vw : Value} {wts : List Wt} {s : DSt} (h : DskIs B w g vs vw wts s) : vs.ownBlock ≠ some g := own_blk_ne h.sure h.blk (by decide)
theorem DskIs.ne_waits {B : Nat} {w : World} {g : Nat} {vs vw : Value} {wts : List Wt} {s : DSt} (h : DskIs B w g vs vw wts s) : vw.ownBlock ≠ some g := own_blk_ne h.waits h.blk (by decide)
theorem DskIs.keep {G : Nat → Prop} {B : Nat} {w w' : World} {g : Nat} {vs vw : Value} {wts : List Wt} {s : DSt} (h : DskIs B w g vs vw wts s) (hm : Mod G w w') (hF : ∀ k, DF g vs vw wts k → ¬ G k) : DskIs B w' g vs vw wts s :=
  ⟨h.blk.keep hm (hF g (.inl rfl)), h.low, own_keep h.sure hm (fun k hk => hF k (.inr (.inl hk))), own_keep h.waits hm (fun k hk => hF k (.inr (.inr (.inl hk)))),
    fun x hx => ⟨own_keep (h.all x hx).1 hm (fun k hk => hF k (.inr (.inr (.inr ⟨x, hx, by simpa [Wt.v, Value.ownBlock] using hk⟩)))), (h.all x hx).2⟩, h.st, h.pos, h.big, h.mod⟩
theorem DskIs.lt {B : Nat} {w : World} {g : Nat} {vs vw : Value} {wts : List Wt} {s : DSt} (h : DskIs B w g vs vw wts s) : ∀ k, DF g vs vw wts k → B ≤ k ∧ k < w.heap.size := by
  rintro k (rfl | hk | hk | ⟨x, hx, rfl⟩)
  · exact ⟨h.low, h.blk.lt⟩
  · exact h.sure.lt k hk
  · exact h.waits.lt k hk
  · exact (h.all x hx).1.lt x.b rfl
theorem DskAt.keep {F G : Nat → Prop} {B : Nat} {w w' : World} {g : Nat} {s : DSt} (h : DskAt B w g F s) (hm : Mod G w w') (hF : ∀ k, F k → ¬ G k) : DskAt B w' g F s := by
  obtain ⟨vs, vw, wts, rfl, h⟩ := h
  exact ⟨vs, vw, wts, rfl, h.keep hm hF⟩
theorem DskAt.keep0 {F : Nat → Prop} {B : Nat} {w w' : World} {g : Nat} {s : DSt} (h : DskAt B w g F s) (hm : Mod Nil w w') : DskAt B w' g F s := h.keep hm (fun _ _ => id)
theorem DskAt.lt {F : Nat → Prop} {B : Nat} {w : World} {g : Nat} {s : DSt} (h : DskAt B w g F s) : ∀ k, F k → B ≤ k ∧ k < w.heap.size := by
  obtain ⟨vs, vw, wts, rfl, h⟩ := h
  exact h.lt

/-- What a call on a disk leaves. -/
def DskPost (B : Nat) (w : World) (g : Nat) (F : Nat → Prop) (s : DSt) (e : Ending) (r : Ending) (w' : World) : Prop :=
  r = e ∧ ∃ F', DskAt B w' g F' s ∧ Mod F w w' ∧ ∀ k, F' k → F k ∨ w.heap.size ≤ k

/-- Only the number of calls that are done has turned. -/
theorem DskIs.left_ {B : Nat} {w : World} {g : Nat} {vs vw : Value} {wts : List Wt} {s : DSt} (h : DskIs B w g vs vw wts s) (n : Int) : DskIs B (w.setCell ⟨g, 2, none⟩ (.int .i64 n)) g vs vw wts { s with left := n } := by
  have hm : Mod (fun k => k = g) w (w.setCell ⟨g, 2, none⟩ (.int .i64 n)) := (Mod.refl (fun k => k = g) w).set (p := ⟨g, 2, none⟩) (.inl rfl) _
  refine ⟨by simpa using h.blk.set_ 2 (.int .i64 n), h.low, own_keep h.sure hm (fun k hk hkg => h.ne_sure (hkg ▸ hk)), own_keep h.waits hm (fun k hk hkg => h.ne_waits (hkg ▸ hk)), fun x hx => ⟨own_keep (h.all x hx).1 hm (fun k hk hkg => ?_), (h.all x hx).2⟩, h.st, h.pos, h.big, h.mod⟩
  obtain ⟨cs, hb, _⟩ := (h.all x hx).blk
  exact hb.ne_ h.blk (by decide) (by have : x.b = k := by simpa [Wt.v, Value.ownBlock] using hk
                                     rw [this]; exact hkg)
theorem DskIs.post {B : Nat} {w w' : World} {g : Nat} {vs vw : Value} {wts : List Wt} {s : DSt} (h : DskIs B w' g vs vw wts s) {e : Ending} (hm : Mod (DF g vs vw wts) w w') : DskPost B w g (DF g vs vw wts) s e e w' :=
  ⟨rfl, _, ⟨vs, vw, wts, rfl, h⟩, hm, fun _ h => .inl h⟩

theorem dskSize_any (B g : Nat) (F : Nat → Prop) (s : DSt) (w : World) (h : DskAt B w g F s) :
    Calls Try.prog 56 #[.pointer (some ⟨g, 0, none⟩)] w fun r w' => r = .returned (.int .i64 (s.S.length / 64 : Nat)) ∧ w = w' := by
  obtain ⟨vs, vw, wts, rfl, h⟩ := h
  have hc0 := h.blk.cell 0
  obtain ⟨A, c, rfl, _, _⟩ := own_slice h.sure
  have hb := h.big
  clear h
  go_enter Try.func56, Try.ntmps56
  go_wp2_with fail
  go_ret
  refine ⟨ret_int (by omega), rfl⟩

/-- Is there a sector? -/
def DSt.there (s : DSt) (n : Int) : Bool := decide (0 ≤ n ∧ n < (s.S.length / 64 : Nat))

theorem dskThere_any (B g : Nat) (F : Nat → Prop) (s : DSt) (n : Int) (w : World) (h : DskAt B w g F s) :
    Calls Try.prog 68 #[.pointer (some ⟨g, 0, none⟩), .int .i64 n] w fun r w' => r = .returned (.bool (s.there n)) ∧ w = w' := by
  have HC := Lib.hid (dskSize_any B g F s w h)
  clear h
  unfold DSt.there
  by_cases h0 : 0 ≤ n
  · go_enter Try.func68, Try.ntmps68
    go_wp2_with fail
    refine HC.out.mono ?_
    rintro r w' ⟨rfl, rfl⟩
    go_wp2_with fail
    go_ret
    exact ⟨ret_bool (by simp [h0]), rfl⟩
  · go_enter Try.func68, Try.ntmps68
    go_wp2_with fail
    go_ret
    exact ⟨ret_bool (by simp; omega), rfl⟩

/-- Is the power on? -/
def DSt.on (s : DSt) : Bool := decide (s.left ≠ 0)
/-- One call less. -/
def DSt.spend (s : DSt) : DSt := if 0 < s.left then { s with left := s.left - 1 } else s

theorem dskOn_any (B g : Nat) (F : Nat → Prop) (s : DSt) (w : World) (h : DskAt B w g F s) (hl : s.left ≤ 9223372036854775807) :
    Calls Try.prog 69 #[.pointer (some ⟨g, 0, none⟩)] w (DskPost B w g F s.spend (.returned (.bool s.on))) := by
  obtain ⟨vs, vw, wts, rfl, h⟩ := h
  have hc2 := h.blk.cell 2
  have hf2 := h.blk.frozen 2
  have hgl := h.blk.lt
  have H := Lib.hid h
  clear h
  by_cases h0 : 0 < s.left
  · have e1 : s.spend = { s with left := s.left - 1 } := by simp [DSt.spend, h0]
    have HE := Lib.hid e1
    have e2 : s.on = true := by simp [DSt.on]; omega
    rw [e2]
    clear e1 e2
    go_enter Try.func69, Try.ntmps69
    go_wp2_with fail
    go_ret
    rw [HE.out]
    exact (H.out.left_ _).post ((Mod.refl _ _).set (.inl (.inl rfl)) _)
  · have e1 : s.spend = s := by simp [DSt.spend, h0]
    have HE := Lib.hid e1
    clear e1
    go_enter Try.func69, Try.ntmps69
    go_wp2_with fail
    go_ret
    rw [HE.out]
    have : decide (s.left < 0) = s.on := by unfold DSt.on; by_cases h1 : s.left < 0 <;> simp [h1] <;> omega
    exact this ▸ H.out.post (Mod.refl _ _)

theorem dskPower_any (B g : Nat) (F : Nat → Prop) (s : DSt) (n : Int) (w : World) (h : DskAt B w g F s) :
    Calls Try.prog 20 #[.pointer (some ⟨g, 0, none⟩), .int .i64 n] w (DskPost B w g F { s with left := max n (-1) } (.returned (.tuple #[]))) := by
  obtain ⟨vs, vw, wts, rfl, h⟩ := h
  have hf2 := h.blk.frozen 2
  have hc2 := h.blk.cell 2
  have hgl := h.blk.lt
  have H := Lib.hid h
  clear h
  obtain ⟨m, hm⟩ : ∃ m, m = max n (-1) := ⟨_, rfl⟩
  rw [← hm]
  by_cases h0 : n < -1
  · obtain rfl : m = -1 := by omega
    clear hm
    go_enter Try.func20, Try.ntmps20
    go_wp2_with fail
    go_end0
    exact (H.out.left_ _).post ((Mod.refl _ _).set (.inl (.inl rfl)) _)
  · obtain rfl : m = n := by omega
    clear hm
    go_enter Try.func20, Try.ntmps20
    go_wp2_with fail
    go_end0
    exact (H.out.left_ _).post ((Mod.refl _ _).set (.inl (.inl rfl)) _)
end Go.Proofs.Ytjmehamkpmimkaa

namespace Go.Proofs.Ytjmehamkpmimkaa
open Go.RowKit

/-- What all sectors have. -/
def imgOf (S : List UInt8) (ws : List (Nat × List UInt8)) : List UInt8 := ws.foldl (fun S x => layB S x.1 x.2) S
def DSt.img (s : DSt) : List UInt8 := imgOf s.S s.ws

theorem imgOf_snoc (S : List UInt8) (ws : List (Nat × List UInt8)) (x : Nat × List UInt8) : imgOf S (ws ++ [x]) = layB (imgOf S ws) x.1 x.2 := by simp [imgOf, List.foldl_append]

theorem imgOf_length {S : List UInt8} {ws : List (Nat × List UInt8)} (h : ∀ x ∈ ws, 64 * x.1 + x.2.length ≤ S.length) : (imgOf S ws).length = S.length := by
  induction ws generalizing S with
  | nil => rfl
  | cons x r ih =>
    have hx := layB_length (h x (by simp))
    show (imgOf (layB S x.1 x.2) r).length = _
    rw [ih (fun y hy => by rw [hx]; exact h y (by simp [hy])), hx]

theorem wt_len {B N : Nat} {w : World} {vs : Value} {x : Wt} (h : WtAt B w vs N x) : x.l.length = 64 := by
  have := h.1.1
  simpa using this

theorem DskIs.fits {B : Nat} {w : World} {g : Nat} {vs vw : Value} {wts : List Wt} {s : DSt} (h : DskIs B w g vs vw wts s) : ∀ x ∈ s.ws, 64 * x.1 + x.2.length ≤ s.S.length := by
  intro x hx
  rw [h.st] at hx
  obtain ⟨y, hy, rfl⟩ := List.mem_map.1 hx
  have h1 := wt_len (h.all y hy)
  have h2 := (h.all y hy).2.1
  show 64 * y.at_ + y.l.length ≤ _
  omega

theorem flatMap_cells (wts : List Wt) (k : Nat) (x : Wt) (h : wts[k]? = some x) : (wts.flatMap Wt.cells)[k * 2]? = some (.int .i64 x.at_) ∧ (wts.flatMap Wt.cells)[k * 2 + 1]? = some x.v := by
  induction wts generalizing k with
  | nil => cases h
  | cons y r ih =>
    match k with
    | 0 => cases h; exact ⟨rfl, rfl⟩
    | k + 1 =>
      have := ih k (by simpa using h)
      have e1 : (k + 1) * 2 = k * 2 + 2 := by omega
      have e2 : (k + 1) * 2 + 1 = k * 2 + 1 + 2 := by omega
      rw [e2, e1]
      have e3 : (y :: r).flatMap Wt.cells = [.int .i64 y.at_, y.v] ++ r.flatMap Wt.cells := rfl
      rw [e3, List.getElem?_append_right (by simp), List.getElem?_append_right (by simp)]
      simpa using this

set_option maxHeartbeats 1600000 in
set_option maxRecDepth 100000 in
theorem dskImage_any (B g : Nat) (F : Nat → Prop) (s : DSt) (w : World) (h : DskAt B w g F s) (hbig : s.ws.length ≤ 1000000) :
    Calls Try.prog 31 #[.pointer (some ⟨g, 0, none⟩)] w fun r w' => ∃ v, r = .returned v ∧ w'.ownsRow w.heap.size 5 1 v s.S.length (s.img.map bv) ∧ Mod Nil w w' := by
  obtain ⟨vs, vw, wts, rfl, h⟩ := h
  have hc0 := h.blk.cell 0
  have hc1 := h.blk.cell 1
  obtain ⟨A, c, rfl, _, _⟩ := own_slice h.sure
  obtain ⟨C, d, rfl, hd1, hd2⟩ := own_slice h.waits
  have hlen : wts.length = s.ws.length := by rw [h.st]; simp
  have hbs := h.big
  have hpos := h.pos
  obtain ⟨n, hn⟩ : ∃ n, n = wts.length := ⟨_, rfl⟩
  obtain ⟨N, hN⟩ : ∃ N, N = s.S.length := ⟨_, rfl⟩
  rw [← hn] at hlen hc1 hd1
  rw [← hN] at hbs hpos
  have hglt := h.blk.lt
  have HN := Lib.hid hn
  have HNN := Lib.hid hN
  have H := Lib.hid h
  have HC := Lib.hid (clone_any _ A N c s.S w hN.symm (by omega) (Rd.of_own h.sure))
  rw [← hN] at hc0
  clear h hn hN
  go_enter Try.func31, Try.ntmps31
  go_wp2_with fail
  refine HC.out.mono ?_
  rintro r w1 ⟨v1, rfl, ho1, hm1⟩
  obtain ⟨gi, ci, rfl, hgi, hgil⟩ := ho1.form (by omega)
  have HO1 := Lib.hid ho1
  have HM1 := Lib.hid hm1
  have hc1' := (hm1.cell (p := ⟨g, 1, none⟩) hglt id).trans hc1
  clear ho1 hm1
  go_wp2_with fail
  go_loopw [16] (fun iv wr => ∃ k : Nat, k ≤ n ∧ iv = .int .i64 k ∧ wr.ownsRow w.heap.size 5 1 (.slice (some ⟨gi, 0, none⟩) N ci) N ((imgOf s.S (s.ws.take k)).map bv) ∧ Mod Nil w wr) (fun v _ => n - (intOf v).toNat)
  case atStart => exact ⟨0, Nat.zero_le _, rfl, HO1.out, HM1.out⟩
  case round =>
    obtain ⟨k, hk, rfl, ho, hm⟩ := hrel
    have HO := Lib.hid ho
    have HM := Lib.hid hm
    clear ho hm
    by_cases hlt : k < n
    · obtain ⟨x, hx⟩ : ∃ x, wts[k]? = some x := ⟨_, List.getElem?_eq_getElem (by have := HN.out; omega)⟩
      have hxm := List.mem_of_getElem? hx
      obtain ⟨e1, e2⟩ := flatMap_cells wts k x hx
      have hD := H.out.keep HM.out (fun _ _ => id)
      obtain ⟨gw, cw, hgw, _, _⟩ := hD.waits.form (by have := HN.out; omega)
      injection hgw with hC _ hd
      subst hC hd
      have hcl := hD.waits.cells (g := gw) rfl
      have q1 := hcl _ _ e1
      have q2 := hcl _ _ e2
      rw [Addr.add_lit, Nat.zero_add] at q1 q2
      have hwt := hD.all x hxm
      have hst : s.ws[k]? = some (x.at_, x.l) := by rw [H.out.st, List.getElem?_map, hx]; rfl
      have himg : imgOf s.S (s.ws.take (k + 1)) = layB (imgOf s.S (s.ws.take k)) x.at_ x.l := by rw [List.take_add_one, hst]; exact imgOf_snoc _ _ _
      have HI := Lib.hid himg
      have HWT := Lib.hid hwt
      have hat := hwt.2.1
      obtain ⟨_, _, hcap1, hcap2, _, _⟩ := own_heap hwt.1
      have hxl := wt_len hwt
      clear e1 e2 hD hcl hst himg hwt hx
      unfold Wt.v at q2
      have hb64 : 64 * x.at_ + 64 ≤ N := by rw [HNN.out]; exact hat
      clear hat
      go_wp2_with fail
      refine (lay_any w.heap.size gi N ci x.at_ x.b x.cap 64 (imgOf s.S (s.ws.take k)) x.l _ (own_keep HO.out ((Mod.refl Nil wr).alloc _) (fun _ _ => id)) ((Rd.of_own HWT.out.1).keep0 ((Mod.refl Nil wr).alloc _) |>.mono fun _ _ _ => trivial) hxl hcap1 hcap2 hb64 (Nat.le_refl _) hbs).mono ?_
      rintro r w2 ⟨rfl, ho2, hm2⟩
      have ho3 : w2.ownsRow w.heap.size 5 1 (.slice (some ⟨gi, 0, none⟩) N ci) N ((imgOf s.S (s.ws.take (k + 1))).map bv) := by
        rw [HI.out]
        rw [List.take_of_length_le (l := x.l) (by omega)] at ho2
        exact ho2
      have HO2 := Lib.hid ho3
      have HM2 := Lib.hid (show Mod Nil w w2 from (HM.out.alloc _).trans' hm2 (fun _ _ h => h) (fun j hj e => absurd hj (by omega)))
      clear ho2 hm2 ho3
      go_wp2_with fail
      go_roundw
      case rel => exact ⟨k + 1, by omega, by go_num, HO2.out, HM2.out⟩
      case measure => simp [intOf] <;> omega
    · go_wp2_with fail
      go_ret
      have hk' : s.ws.take k = s.ws := List.take_of_length_le (by omega)
      refine ⟨_, rfl, ?_, HM.out⟩
      have := HO.out
      rw [hk'] at this
      have e := HNN.out
      subst e
      exact this
end Go.Proofs.Ytjmehamkpmimkaa

namespace Go.Proofs.Ytjmehamkpmimkaa
open Go.RowKit

section
variable {P : Program} (w : World)
theorem step_append_k {ops : Array Oper} {o : Oper} {a : Act} {K : Act → World → Prop} {Q : Exit → Act → World → Prop} {E : Prop} (hgd : o.guard = none) (s x : Operand) (t : TypeId)
    (ho : o.op = .call { callee := .builtin .append, args := #[s, x], argTypes := #[t, t] })
    (base : Nat) (e : TypeId) (i : TypeInfo) (z : Value) (size bytes : Nat) (ht : P.underlying t = some (.slice e)) (hi : P.info? e = some i) (hz : i.zero = some z)
    (hsize : i.size = size) (hby : i.bytes = bytes) (hzs : z.cells.size = size) (hsz : 0 < size)
    (v : Value) (n : Nat) (xs : List Value) (hs : a.eval s = v) (hown : w.ownsRow base e size v n xs)
    (ad : Addr) (m c : Nat) (news : List Value) (hx : a.eval x = .slice (some ad) m c) (hl : news.length = m * size) (hr : ∀ j u, news[j]? = some u → w.cell? (ad.add j) = some u) (h1 : ∀ u ∈ news, u.oneCell' = true)
    (hbytes : (n + m) * bytes ≤ 140737488355328) (h63 : n + m ≤ maxLen) (hbase : base ≤ w.heap.size)
    (h : ∀ A' c' w', w'.ownsRow base e size (.slice A' (n + m) c') (n + m) (xs ++ news) → Mod (fun k => v.ownBlock = some k) w w' → (∀ k, (Value.slice A' (n + m) c').ownBlock = some k → v.ownBlock = some k ∨ w.heap.size ≤ k) → K (a.put o.dst (.slice A' (n + m) c')) w') :
    if Region.wanted o (yielded ops a.tmps) = true then Oper.wp P o a w K Q else E := by
  have hw : Region.wanted o (yielded ops a.tmps) = true := by simp [Region.wanted, hgd]
  rw [if_pos hw]
  obtain ⟨v', w', hrun, h2, h3, _, h5⟩ := run_append_own_at (P := P) w base t o.type e i z size bytes ht hi hz hsize hby hzs hsz v n xs hown ad m c news hl hr h1 h63 hbytes hbase
  obtain ⟨A', c', rfl, _, _⟩ := own_slice h2
  unfold Oper.wp execOp
  simp only [ho, resolve, invoke, builtin, Sem.run_bind, Sem.run_pure, Result.andThen_ok, List.map_toArray, List.map_cons, List.map_nil, hs, hx, hrun]
  refine h A' c' w' h2 (Mod.of_grown h3) (fun k hk => ?_)
  rcases h5 with h5 | h5
  · exact .inl (h5 ▸ hk)
  · rw [h5] at hk
    injection hk with hk
    exact .inr (by omega)
end

theorem DskAt.base {F : Nat → Prop} {B B' : Nat} {w : World} {g : Nat} {s : DSt} (h : DskAt B w g F s) (hB : B' ≤ B) : DskAt B' w g F s := by
  obtain ⟨vs, vw, wts, rfl, h1, h2, h3, h4, h5, h6, h7, h8, h9⟩ := h
  exact ⟨vs, vw, wts, rfl, h1, by omega, own_base h3 hB, own_base h4 hB, fun x hx => ⟨own_base (h5 x hx).1 hB, (h5 x hx).2⟩, h6, h7, h8, h9⟩

/-- Is it a disk's number of octets? -/
def dskLen (n : Nat) : Prop := n ≠ 0 ∧ n % 64 = 0 ∧ n ≤ 4194304

theorem dskOf_bad (A : Option Addr) (n c : Nat) (w : World) (h : ¬ dskLen n) (hn : n ≤ maxLen) :
    Calls Try.prog 44 #[.slice A n c] w fun r w' => r = .returned (.tuple #[.pointer none, .int .i64 2]) ∧ w = w' := by
  have hmax : maxLen = 9223372036854775807 := rfl
  by_cases h0 : n = 0
  · subst h0
    clear h
    go_enter Try.func44, Try.ntmps44
    go_wp2_with fail
    go_ret2
    exact ⟨rfl, rfl⟩
  have hn0 : ((n : Int) == 0) = false := by simp; omega
  by_cases h1 : n % 64 = 0
  · have h2 : (n : Int) > 4194304 := by unfold dskLen at h; omega
    have hr : (n : Int).tmod 64 = 0 := by rw [Int.tmod_eq_emod_of_nonneg (by omega)]; omega
    clear h
    go_enter Try.func44, Try.ntmps44
    go_wp2_with fail
    go_ret2
    exact ⟨rfl, rfl⟩
  · have hr : ¬ (n : Int).tmod 64 = 0 := by rw [Int.tmod_eq_emod_of_nonneg (by omega)]; omega
    clear h
    go_enter Try.func44, Try.ntmps44
    go_wp2_with fail
    all_goals
      go_ret2
      exact ⟨rfl, rfl⟩

/-- What a new disk leaves. -/
def DskNew (B : Nat) (w : World) (s : DSt) (r : Ending) (w' : World) : Prop := ∃ g F, r = .returned (.tuple #[.pointer (some ⟨g, 0, none⟩), .int .i64 0]) ∧ DskAt B w' g F s ∧ Mod Nil w w'

set_option maxHeartbeats 1600000 in
set_option maxRecDepth 100000 in
theorem dskOf_ok (A : Option Addr) (n c : Nat) (S : Nat → Prop) (l : List UInt8) (w : World) (h : dskLen n) (hl : l.length = n) (hr : Rd S w A (l.map bv)) :
    Calls Try.prog 44 #[.slice A n c] w (DskNew w.heap.size w ⟨l, [], -1⟩) := by
  obtain ⟨h0, h1, h2⟩ := h
  have HC := Lib.hid (clone_any S A n c l w hl (by omega) hr)
  clear hr
  have hn0 : ((n : Int) == 0) = false := by simp; omega
  have hr : (n : Int).tmod 64 = 0 := by rw [Int.tmod_eq_emod_of_nonneg (by omega)]; omega
  go_enter Try.func44, Try.ntmps44
  go_wp2_with fail
  refine HC.out.mono ?_
  rintro r w1 ⟨v1, rfl, ho1, hm1⟩
  obtain ⟨A1, c1, rfl, _, _⟩ := own_slice ho1
  have HO := Lib.hid ho1
  have HM := Lib.hid hm1
  clear ho1 hm1
  go_wp2_with fail
  go_ret2
  refine ⟨w1.heap.size, _, rfl, ⟨.slice A1 n c1, .slice none 0 0, [], rfl, Blk.new _ _ _, HM.out.size, ?_, World.ownsRow_nil _ _ _ _, fun x hx => (by cases hx), rfl, ?_, ?_, ?_⟩, HM.out.alloc _⟩
  · subst hl
    exact own_keep HO.out ((Mod.refl Nil w1).alloc _) (fun _ _ => id)
  · show 0 < l.length; omega
  · show l.length ≤ _; omega
  · show l.length % 64 = 0; omega

theorem dskNew_bad (n : Int) (w : World) (h : n < 1 ∨ 65536 < n) :
    Calls Try.prog 14 #[.int .i64 n] w fun r w' => r = .returned (.tuple #[.pointer none, .int .i64 2]) ∧ w = w' := by
  go_enter Try.func14, Try.ntmps14
  go_wp2_with fail
  all_goals
    go_ret2
    exact ⟨rfl, rfl⟩

theorem madeCells_u8 (n : Nat) : (madeCells (Value.int .u8 0).cells (n * 1)).toList = (List.replicate n (0 : UInt8)).map bv := by
  apply List.ext_getElem
  · simp [madeCells]
  · intro i h1 h2
    simp [madeCells, Value.cells, bv, Nat.mod_one]

set_option maxHeartbeats 1600000 in
set_option maxRecDepth 100000 in
theorem dskNew_ok (n : Nat) (w : World) (h0 : 1 ≤ n) (h1 : n ≤ 65536) :
    Calls Try.prog 14 #[.int .i64 n] w (DskNew w.heap.size w ⟨List.replicate (64 * n) 0, [], -1⟩) := by
  obtain ⟨i0, hi, hz0, hz1, hz2⟩ := info_parts u8_info
  have hw64 : IntKind.i64.wrap ((n : Int) * 64) = (n : Int) * 64 := IntWalk.i64_in _ (by omega)
  go_enter Try.func14, Try.ntmps14
  go_wp2_with (at_make; refine wpList_make_full _ rfl (.tmp 11) (.tmp 11) 36 rfl w.heap.size 5 i0 (.int .u8 0) 1 Try.underlying36 hi hz0 hz1 .i64 .i64 ((n : Int) * 64) ((n : Int) * 64) (64 * n) rfl rfl (by omega) (by omega) (by rw [hz2]; omega) (by simp only [maxLen]; omega) (Nat.le_refl _) ?_; intro w1 ho1 hg1)
  have hzs := madeCells_u8 (64 * n)
  rw [hzs] at ho1
  have HM := Lib.hid ((Mod.of_grown hg1).mono (G := Nil) (fun _ _ h => by cases h))
  refine (dskOf_ok _ (64 * n) (64 * n) _ (List.replicate (64 * n) 0) w1 ⟨by omega, by omega, by omega⟩ (by simp) (Rd.of_own ho1)).mono ?_
  rintro r w2 ⟨g, F, rfl, hd, hm⟩
  have HD := Lib.hid hd
  have HM2 := Lib.hid hm
  clear ho1 hg1 hd hm
  go_wp2_with fail
  go_ret2
  exact ⟨g, F, rfl, HD.out.base HM.out.size, HM.out.trans HM2.out⟩

theorem sync_after {B g : Nat} {F F1 : Nat → Prop} {s s1 : DSt} {w w1 w2 : World} {vs vw v2 : Value} {wts : List Wt} {e : Ending} (hd : DskIs B w2 g vs vw wts s1) (hF : F1 = DF g vs vw wts) (ho : w2.ownsRow w1.heap.size 5 1 v2 s1.S.length (s1.img.map bv))
    (hm1 : Mod F w w1) (hm2 : Mod Nil w1 w2) (hF1 : ∀ k, F1 k → F k ∨ w.heap.size ≤ k) (hB : B ≤ w.heap.size) (hs : s1.img = s.img) :
    DskPost B w g F ⟨s.img, [], s1.left⟩ e e ((w2.setCell ⟨g, 0, none⟩ v2).setCell ⟨g, 1, none⟩ (.slice none 0 0)) := by
  have hlen : s1.img.length = s1.S.length := imgOf_length hd.fits
  have hm3 : Mod (fun k => k = g) w2 ((w2.setCell ⟨g, 0, none⟩ v2).setCell ⟨g, 1, none⟩ (.slice none 0 0)) := ((Mod.refl (fun k => k = g) w2).set (p := ⟨g, 0, none⟩) (.inl rfl) _).set (p := ⟨g, 1, none⟩) (.inl rfl) _
  have hne : v2.ownBlock ≠ some g := own_blk_ne ho hd.blk (by decide)
  have hgF : F1 g := hF ▸ .inl rfl
  have hsz := Nat.le_trans hB hm1.size
  refine ⟨rfl, DF g v2 (.slice none 0 0) [], ⟨v2, .slice none 0 0, [], rfl, ?_, hd.low, ?_, World.ownsRow_nil _ _ _ _, fun x hx => (by cases hx), rfl, ?_, ?_, ?_⟩, ?_, ?_⟩
  · simpa using (hd.blk.set_ 0 v2).set_ 1 (.slice none 0 0)
  · rw [← hs, hlen]
    exact own_base (own_keep ho hm3 (fun k hk hkg => hne (hkg ▸ hk))) hsz
  · show 0 < s.img.length
    rw [← hs, hlen]; exact hd.pos
  · show s.img.length ≤ _
    rw [← hs, hlen]; exact hd.big
  · show s.img.length % 64 = 0
    rw [← hs, hlen]; exact hd.mod
  · refine (hm1.trans' hm2 (H := F) (fun _ _ h => h) (fun _ _ h => h.elim)).trans' hm3 (fun _ _ h => h) (fun k hk hkg => ?_)
    subst hkg
    exact (hF1 k hgF).resolve_right (by omega)
  · rintro k (rfl | hk | hk | ⟨x, hx, _⟩)
    · exact hF1 k hgF
    · exact .inr (Nat.le_trans hm1.size (ho.lt k hk).1)
    · cases hk
    · cases hx

theorem spend_img (s : DSt) : s.spend.img = s.img := by unfold DSt.spend; split <;> rfl

set_option maxHeartbeats 1600000 in
set_option maxRecDepth 100000 in
theorem dskSync_any (B g : Nat) (F : Nat → Prop) (s : DSt) (w : World) (h : DskAt B w g F s) (hB : B ≤ w.heap.size) (hbig : s.ws.length ≤ 1000000) (hl : s.left ≤ 9223372036854775807) :
    Calls Try.prog 51 #[.pointer (some ⟨g, 0, none⟩)] w (DskPost B w g F (if s.on then ⟨s.img, [], s.spend.left⟩ else s) (.returned (.int .i64 (if s.on then 0 else 20)))) := by
  have HC := Lib.hid (dskOn_any B g F s w h hl)
  have HH := Lib.hid h
  by_cases hon : s.on = true
  · rw [if_pos hon, if_pos hon]
    rw [hon] at HC
    go_enter Try.func51, Try.ntmps51
    go_wp2_with fail
    refine HC.out.mono ?_
    rintro r w1 ⟨rfl, F1, hd1, hm1, hF1⟩
    have HD1 := Lib.hid hd1
    have HM1 := Lib.hid hm1
    have HF1 := Lib.hid hF1
    clear hd1 hm1 hF1 h
    go_wp2_with fail
    refine (dskImage_any B g F1 s.spend w1 HD1.out (by unfold DSt.spend; split <;> exact hbig)).mono ?_
    rintro r w2 ⟨v2, rfl, ho2, hm2⟩
    obtain ⟨A2, c2, rfl, _, _⟩ := own_slice ho2
    obtain ⟨vs, vw, wts, hFF, hd⟩ := HD1.out.keep0 hm2
    have hc0 := hd.blk.cell 0
    have hc1 := hd.blk.cell 1
    have hf0 := hd.blk.frozen 0
    have hf1 := hd.blk.frozen 1
    have hgl := hd.blk.lt
    have HO2 := Lib.hid ho2
    have HM2 := Lib.hid hm2
    have HD := Lib.hid hd
    have HFF := Lib.hid hFF
    clear ho2 hm2 hd hFF
    go_wp2_with fail
    go_ret
    exact sync_after HD.out HFF.out HO2.out HM1.out HM2.out HF1.out hB (spend_img s)
  · rw [if_neg hon, if_neg hon]
    have hon' : s.on = false := by simpa using hon
    rw [hon'] at HC
    go_enter Try.func51, Try.ntmps51
    go_wp2_with fail
    refine HC.out.mono ?_
    rintro r w1 ⟨rfl, F1, hd1, hm1, hF1⟩
    have HD1 := Lib.hid hd1
    have HM1 := Lib.hid hm1
    have HF1 := Lib.hid hF1
    have HE := Lib.hid (show s.spend = s by unfold DSt.on at hon; unfold DSt.spend; rw [if_neg (by simp at hon; omega)])
    clear hd1 hm1 hF1 h
    go_wp2_with fail
    go_ret
    exact ⟨rfl, F1, HE.out ▸ HD1.out, HM1.out, HF1.out⟩

theorem wr_info : (Try.prog.info? 103).map (fun i => (i.zero, i.size, i.bytes)) = some (some (.agg #[.int .i64 0, .slice none 0 0]), 2, 32) := by kernel_rfl

/-- A write that came in: the disk behind it. -/
def DSt.put (s : DSt) (n : Nat) (b : List UInt8) : DSt := ⟨s.S, s.ws ++ [(n, b)], s.left⟩

theorem DSt.there_fits {s : DSt} {n : Nat} (h : s.there n = true) : 64 * n + 64 ≤ s.S.length := by
  unfold DSt.there at h
  simp at h
  omega

theorem cells_new (w : World) (t : TypeId) (cs : Array Value) : ∀ (j : Nat) (u : Value), cs.toList[j]? = some u → (w.alloc (.cells cs t)).cell? ((⟨w.heap.size, 0, none⟩ : Addr).add j) = some u := by
  intro j u hu
  rw [Addr.add_lit, Nat.zero_add, (Blk.new w t cs).cell j]
  simpa using hu

theorem write_after {B g n k c1 c' gb cb : Nat} {A1 A' : Option Addr} {F F1 : Nat → Prop} {s1 : DSt} {w w1 wA w3 : World} {vs : Value} {wts : List Wt} {b : List UInt8} {e : Ending}
    (hd : DskIs B w1 g vs (.slice A1 k c1) wts s1) (hF : F1 = DF g vs (.slice A1 k c1) wts) (hm1 : Mod F w w1) (hF1 : ∀ k, F1 k → F k ∨ w.heap.size ≤ k) (hB : B ≤ w.heap.size) (hmA : Mod Nil w1 wA)
    (hoA : wA.ownsRow w1.heap.size 5 1 (.slice (some ⟨gb, 0, none⟩) 64 cb) 64 (b.map bv)) (hk : wts.length = k) (ht : s1.there n = true)
    (hown : w3.ownsRow B 103 2 (.slice A' (k + 1) c') (k + 1) (wts.flatMap Wt.cells ++ [.int .i64 n, .slice (some ⟨gb, 0, none⟩) 64 cb]))
    (hm3 : Mod (fun j => (Value.slice A1 k c1).ownBlock = some j) wA w3) (hat : ∀ j, (Value.slice A' (k + 1) c').ownBlock = some j → (Value.slice A1 k c1).ownBlock = some j ∨ wA.heap.size ≤ j) :
    DskPost B w g F (s1.put n b) e e (w3.setCell ⟨g, 1, none⟩ (.slice A' (k + 1) c')) := by
  have hdA := hd.keep hmA (fun _ _ => id)
  have hsz := Nat.le_trans hB hm1.size
  have hgbl := (hoA.lt gb rfl)
  have hug : ∀ {B' : Nat} {v : Value} {m : Nat} {xs : List Value}, wA.ownsRow B' 5 1 v m xs → ∀ j, v.ownBlock = some j → ¬ (Value.slice A1 k c1).ownBlock = some j := by
    intro B' v m xs ho j hj hj'
    rcases ho.2 with ⟨rfl, _⟩ | ⟨gj, cap, cur, rfl, _, hh, _⟩
    · cases hj
    · obtain rfl : gj = j := by simpa [Value.ownBlock] using hj
      exact own_blk_ne hdA.waits (show Blk wA gj 5 cur from hh) (by decide) hj'
  have hm4 : Mod (fun j => j = g) w3 (w3.setCell ⟨g, 1, none⟩ (.slice A' (k + 1) c')) := (Mod.refl (fun j => j = g) w3).set (p := ⟨g, 1, none⟩) (.inl rfl) _
  have hg3 : Blk w3 g 101 #[vs, .slice A1 k c1, .int .i64 s1.left] := hdA.blk.keep hm3 hdA.ne_waits
  have hne' : (Value.slice A' (k + 1) c').ownBlock ≠ some g := own_blk_ne hown hg3 (by decide)
  have huk : ∀ {B' : Nat} {v : Value} {m : Nat} {xs : List Value}, wA.ownsRow B' 5 1 v m xs → (w3.setCell ⟨g, 1, none⟩ (.slice A' (k + 1) c')).ownsRow B' 5 1 v m xs := by
    intro B' v m xs ho
    exact own_keep (own_keep ho hm3 (hug ho)) hm4 (fun j hj hjg => own_blk_ne ho hdA.blk (by decide) (hjg ▸ hj))
  have hgF : F1 g := hF ▸ .inl rfl
  have hw1F : ∀ j, F1 j → j < w1.heap.size := fun j hj => by rw [hF] at hj; exact (hd.lt j hj).2
  refine ⟨rfl, DF g vs (.slice A' (k + 1) c') (wts ++ [⟨n, gb, cb, b⟩]), ⟨vs, _, wts ++ [⟨n, gb, cb, b⟩], rfl, ?_, hd.low, huk hdA.sure, ?_, ?_, ?_, hd.pos, hd.big, hd.mod⟩, ?_, ?_⟩
  · simpa [DSt.put] using hg3.set_ 1 (.slice A' (k + 1) c')
  · have := own_keep hown hm4 (fun j hj hjg => hne' (hjg ▸ hj))
    simpa [hk, Wt.cells, Wt.v] using this
  · intro x hx
    rcases List.mem_append.1 hx with hx | hx
    · exact ⟨huk (hdA.all x hx).1, (hdA.all x hx).2⟩
    · obtain rfl : x = ⟨n, gb, cb, b⟩ := by simpa using hx
      exact ⟨own_base (huk hoA) hsz, DSt.there_fits ht, fun hv => by have := (hd.sure.lt gb hv).2; omega⟩
  · simp [DSt.put, hd.st, Wt.st]
  · refine ((hm1.trans' hmA (H := F) (fun _ _ h => h) (fun _ _ h => h.elim)).trans' hm3 (H := F) (fun _ _ h => h) (fun j hj hjv => ?_)).trans' hm4 (fun _ _ h => h) (fun j hj hjg => ?_)
    · exact (hF1 j (hF ▸ .inr (.inr (.inl hjv)))).resolve_right (by omega)
    · subst hjg
      exact (hF1 j hgF).resolve_right (by omega)
  · rintro j (rfl | hj | hj | ⟨x, hx, rfl⟩)
    · exact hF1 _ hgF
    · exact hF1 j (hF ▸ .inr (.inl hj))
    · rcases hat j hj with hj | hj
      · exact hF1 j (hF ▸ .inr (.inr (.inl hj)))
      · exact .inr (by have := hm1.size; have := hmA.size; omega)
    · rcases List.mem_append.1 hx with hx | hx
      · exact hF1 _ (hF ▸ .inr (.inr (.inr ⟨x, hx, rfl⟩)))
      · obtain rfl : x = ⟨n, gb, cb, b⟩ := by simpa using hx
        exact .inr (by have := hm1.size; show w.heap.size ≤ gb; omega)

set_option maxHeartbeats 3200000 in
set_option maxRecDepth 100000 in
theorem dskWrite_ok (B g : Nat) (F : Nat → Prop) (s : DSt) (n : Nat) (A : Option Addr) (cap : Nat) (S : Nat → Prop) (b : List UInt8) (w : World) (h : DskAt B w g F s) (hB : B ≤ w.heap.size) (hbig : s.ws.length ≤ 1000000) (hl : s.left ≤ 9223372036854775807)
    (ht : s.there n = true) (hb : b.length = 64) (hr : Rd S w A (b.map bv)) (hS : ∀ k, S k → ¬ F k) (hon : s.on = true) :
    Calls Try.prog 27 #[.pointer (some ⟨g, 0, none⟩), .int .i64 n, .slice A 64 cap] w (DskPost B w g F (s.spend.put n b) (.returned (.int .i64 0))) := by
  obtain ⟨i0, hi, hz0, hz1, hz2⟩ := info_parts wr_info
  have HT := Lib.hid (dskThere_any B g F s n w h)
  have HO := Lib.hid (dskOn_any B g F s w h hl)
  have HTH := Lib.hid (show s.spend.there n = true by unfold DSt.spend; split <;> exact ht)
  have hws : s.spend.ws.length ≤ 1000000 := by unfold DSt.spend; split <;> exact hbig
  rw [ht] at HT
  rw [hon] at HO
  have HR := Lib.hid hr
  go_enter Try.func27, Try.ntmps27
  go_wp2_with fail
  refine HT.out.mono ?_
  rintro r w0 ⟨rfl, rfl⟩
  go_wp2_with fail
  refine HO.out.mono ?_
  rintro r w1 ⟨rfl, F1, hd1, hm1, hF1⟩
  have HM1 := Lib.hid hm1
  have HF1 := Lib.hid hF1
  obtain ⟨vs, vw, wts, hFF, hd⟩ := hd1
  have hc1 := hd.blk.cell 1
  have hf1 := hd.blk.frozen 1
  have hgl := hd.blk.lt
  obtain ⟨A1, c1, rfl, hc1l, hc1b⟩ := own_slice hd.waits
  obtain ⟨k, hk⟩ : ∃ k, wts.length = k := ⟨_, rfl⟩
  have hkl : k ≤ 1000000 := by rw [hd.st] at hws; simpa [hk] using hws
  rw [hk] at hd hFF hc1 hc1l
  have HK := Lib.hid hk
  have HD := Lib.hid hd
  have HW := Lib.hid (show w1.ownsRow B 103 2 (.slice A1 k c1) k (wts.flatMap Wt.cells) from hk ▸ hd.waits)
  have HFF := Lib.hid hFF
  have HR1 := Lib.hid (hr.keep hm1 hS)
  clear hm1 hF1 hd hFF hr hws hk
  go_wp2_with fail
  go_region_law (first
    | (go_simp
       go_at_call 70
       refine (clone_any S A 64 cap b _ hb (by omega) (HR1.out.keep0 (Mod.refl Nil w1).drew)).mono ?_
       rintro r w2 ⟨v2, rfl, ho2, hm2⟩
       obtain ⟨gb, cb, rfl, hgb, hgbl⟩ := ho2.form (by omega)
       have HO2 := Lib.hid ho2
       have HM2 := Lib.hid (((Mod.refl Nil w1).drew).trans hm2)
       have hc1' := (HM2.out.cell (p := ⟨g, 1, none⟩) hgl id).trans hc1
       have hf1' := (HM2.out.frozen (p := ⟨g, 1, none⟩) hgl id).trans hf1
       have hgl2 : g < w2.heap.size := Nat.lt_of_lt_of_le hgl HM2.out.size
       clear ho2 hm2)
    | (refine step_append_k _ rfl (.tmp 25) (.tmp 30) 99 rfl B 103 i0 (.agg #[.int .i64 0, .slice none 0 0]) 2 32 Try.underlying99 hi hz0 hz1 hz2 rfl (by decide) (.slice A1 k c1) k (wts.flatMap Wt.cells) rfl (own_keep HW.out (HM2.out.alloc _) (fun _ _ => id)) ⟨w2.heap.size, 0, none⟩ 1 1 [.int .i64 n, .slice (some ⟨gb, 0, none⟩) 64 cb] rfl rfl (cells_new w2 _ #[.int .i64 n, .slice (some ⟨gb, 0, none⟩) 64 cb]) (by intro u hu; simp at hu; rcases hu with rfl | rfl <;> rfl) (by omega) (by simp only [maxLen]; omega) (by have := HM1.out.size; have := HM2.out.size; simp; omega) ?_
       intro A' c' w3 hown3 hmod3 hat3
       have hb3 := (HD.out.blk.keep (HM2.out.alloc _) id).keep hmod3 HD.out.ne_waits
       have hc3 := hb3.cell 1
       have hf3 := hb3.frozen 1
       have HW3 := Lib.hid (fun (e : Ending) => write_after (e := e) HD.out HFF.out HM1.out HF1.out hB (HM2.out.alloc _) (own_keep HO2.out ((Mod.refl Nil w2).alloc _) (fun _ _ => id)) HK.out HTH.out hown3 hmod3 hat3)
       clear hb3 hown3 hmod3 hat3))
  all_goals
    go_wp2_with fail
    go_ret
    exact HW3.out _
end Go.Proofs.Ytjmehamkpmimkaa

namespace Go.Proofs.Ytjmehamkpmimkaa
open Go.RowKit

theorem splice_get? {α : Type} (L : List α) (off : Nat) (cs : List α) (i : Nat) (h : off + cs.length ≤ L.length) : (splice L off cs)[i]? = if i < off then L[i]? else if i < off + cs.length then cs[i - off]? else L[i]? := by
  have hl : (L.take off).length = off := by rw [List.length_take]; omega
  unfold splice
  by_cases h1 : i < off
  · rw [if_pos h1, List.getElem?_append_left (by omega), List.getElem?_take, if_pos h1]
  · rw [if_neg h1, List.getElem?_append_right (by omega), hl]
    by_cases h2 : i < off + cs.length
    · rw [if_pos h2, List.getElem?_append_left (by omega)]
    · rw [if_neg h2, List.getElem?_append_right (by omega), List.getElem?_drop]
      congr 1
      omega

/-- A sector. -/
def sector (I : List UInt8) (n : Nat) : List UInt8 := (I.drop (64 * n)).take 64

theorem sector_get? (I : List UInt8) (n i : Nat) : (sector I n)[i]? = if i < 64 then I[64 * n + i]? else none := by
  unfold sector
  rw [List.getElem?_take, List.getElem?_drop]

theorem sector_same {I b : List UInt8} {n : Nat} (hb : b.length = 64) (h : 64 * n + 64 ≤ I.length) : sector (layB I n b) n = b := by
  apply List.ext_getElem?
  intro i
  rw [sector_get?, layB, splice_get? _ _ _ _ (by omega)]
  by_cases hi : i < 64
  · rw [if_pos hi, if_neg (by omega), if_pos (by omega)]
    congr 1
    omega
  · rw [if_neg hi, List.getElem?_eq_none (by omega)]

theorem sector_other {I b : List UInt8} {n m : Nat} (hb : b.length = 64) (h : 64 * m + 64 ≤ I.length) (hne : m ≠ n) : sector (layB I m b) n = sector I n := by
  apply List.ext_getElem?
  intro i
  rw [sector_get?, sector_get?, layB, splice_get? _ _ _ _ (by omega)]
  by_cases hi : i < 64
  · rw [if_pos hi, if_pos hi]
    by_cases h1 : 64 * n + i < 64 * m
    · rw [if_pos h1]
    · rw [if_neg h1, if_neg (by omega)]
  · rw [if_neg hi, if_neg hi]

theorem sector_length {I : List UInt8} {n : Nat} (h : 64 * n + 64 ≤ I.length) : (sector I n).length = 64 := by
  unfold sector
  rw [List.length_take, List.length_drop]
  omega

/-- What Write does: the disk, the error. -/
def DSt.write (s : DSt) (n : Int) (b : List UInt8) : DSt × Int :=
  if s.there n = true ∧ b.length = 64 then (if s.on then (s.spend.put n.toNat b, 0) else (s, 20)) else (s, 2)

theorem DskAt.post {B : Nat} {w w' : World} {g : Nat} {F : Nat → Prop} {s : DSt} (h : DskAt B w' g F s) {e : Ending} (hm : Mod F w w') : DskPost B w g F s e e w' :=
  ⟨rfl, F, h, hm, fun _ h => .inl h⟩

theorem spend_off {s : DSt} (h : s.on = false) : s.spend = s := by
  unfold DSt.on at h
  unfold DSt.spend
  rw [if_neg (by simp at h; omega)]

set_option maxHeartbeats 1600000 in
set_option maxRecDepth 100000 in
theorem dskWrite_any (B g : Nat) (F : Nat → Prop) (s : DSt) (n : Int) (A : Option Addr) (N cap : Nat) (S : Nat → Prop) (b : List UInt8) (w : World) (h : DskAt B w g F s) (hB : B ≤ w.heap.size) (hbig : s.ws.length ≤ 1000000) (hl : s.left ≤ 9223372036854775807)
    (hb : b.length = N) (hr : Rd S w A (b.map bv)) (hS : ∀ k, S k → ¬ F k) :
    Calls Try.prog 27 #[.pointer (some ⟨g, 0, none⟩), .int .i64 n, .slice A N cap] w (DskPost B w g F (s.write n b).1 (.returned (.int .i64 (s.write n b).2))) := by
  have HT := Lib.hid (dskThere_any B g F s n w h)
  have HH := Lib.hid h
  by_cases ht : s.there n = true
  · by_cases hN : N = 64
    · subst hN
      have hn : 0 ≤ n := by unfold DSt.there at ht; simp at ht; exact ht.1
      obtain ⟨m, rfl⟩ := Int.eq_ofNat_of_zero_le hn
      by_cases hon : s.on = true
      · have e : s.write m b = (s.spend.put m b, 0) := by unfold DSt.write; rw [if_pos ⟨ht, hb⟩, if_pos hon]; rfl
        rw [e]
        exact dskWrite_ok B g F s m A cap S b w h hB hbig hl ht hb hr hS hon
      · have hon' : s.on = false := by simpa using hon
        have e : s.write m b = (s, 20) := by unfold DSt.write; rw [if_pos ⟨ht, hb⟩, if_neg hon]
        rw [e]
        have HO := Lib.hid (dskOn_any B g F s w h hl)
        rw [ht] at HT
        rw [hon', spend_off hon'] at HO
        clear h hr
        go_enter Try.func27, Try.ntmps27
        go_wp2_with fail
        refine HT.out.mono ?_
        rintro r w0 ⟨rfl, rfl⟩
        go_wp2_with fail
        refine HO.out.mono ?_
        rintro r w1 ⟨rfl, F1, hd1, hm1, hF1⟩
        have HP := Lib.hid (show ∃ F1, DskAt B w1 g F1 s ∧ Mod F w w1 ∧ ∀ k, F1 k → F k ∨ w.heap.size ≤ k from ⟨F1, hd1, hm1, hF1⟩)
        clear hd1 hm1 hF1
        go_wp2_with fail
        go_ret
        exact ⟨rfl, HP.out⟩
    · have e : s.write n b = (s, 2) := by unfold DSt.write; rw [if_neg (by rw [hb]; exact fun h => hN h.2)]
      rw [e]
      have hNb : ((N : Int) == 64) = false := by simp; omega
      rw [ht] at HT
      clear h hr
      go_enter Try.func27, Try.ntmps27
      go_wp2_with fail
      refine HT.out.mono ?_
      rintro r w0 ⟨rfl, rfl⟩
      go_wp2_with fail
      go_ret
      exact HH.out.post (Mod.refl _ _)
  · have ht' : s.there n = false := by simpa using ht
    have e : s.write n b = (s, 2) := by unfold DSt.write; rw [if_neg (fun h => ht h.1)]
    rw [e]
    rw [ht'] at HT
    clear h hr
    go_enter Try.func27, Try.ntmps27
    go_wp2_with fail
    refine HT.out.mono ?_
    rintro r w0 ⟨rfl, rfl⟩
    go_wp2_with fail
    go_ret
    exact HH.out.post (Mod.refl _ _)

set_option maxHeartbeats 1600000 in
set_option maxRecDepth 100000 in
theorem dskRead_bad (B g : Nat) (F : Nat → Prop) (s : DSt) (n : Int) (w : World) (h : DskAt B w g F s) (ht : s.there n = false) :
    Calls Try.prog 90 #[.pointer (some ⟨g, 0, none⟩), .int .i64 n] w fun r w' => r = .returned (.tuple #[.slice none 0 0, .int .i64 2]) ∧ w = w' := by
  have HT := Lib.hid (dskThere_any B g F s n w h)
  rw [ht] at HT
  clear h
  go_enter Try.func90, Try.ntmps90
  go_wp2_with fail
  refine HT.out.mono ?_
  rintro r w0 ⟨rfl, rfl⟩
  go_wp2_with fail
  go_ret2
  exact ⟨rfl, rfl⟩

set_option maxHeartbeats 1600000 in
set_option maxRecDepth 100000 in
theorem dskRead_ok (B g : Nat) (F : Nat → Prop) (s : DSt) (n : Nat) (w : World) (h : DskAt B w g F s) (ht : s.there n = true) (hbig : s.ws.length ≤ 1000000) :
    Calls Try.prog 90 #[.pointer (some ⟨g, 0, none⟩), .int .i64 n] w fun r w' => ∃ v, r = .returned (.tuple #[v, .int .i64 0]) ∧ w'.ownsRow w.heap.size 5 1 v 64 ((sector s.img n).map bv) ∧ Mod Nil w w' := by
  have HT := Lib.hid (dskThere_any B g F s n w h)
  rw [ht] at HT
  obtain ⟨vs, vw, wts, rfl, h⟩ := h
  have hc0 := h.blk.cell 0
  have hc1 := h.blk.cell 1
  have hfit := DSt.there_fits ht
  have hbs := h.big
  obtain ⟨gs, cs, rfl, _, _⟩ := h.sure.form h.pos
  obtain ⟨C, d, rfl, hd1, hd2⟩ := own_slice h.waits
  obtain ⟨_, _, hcs1, hcs2, _, _⟩ := own_heap h.sure
  have hlen : wts.length = s.ws.length := by rw [h.st]; simp
  have H := Lib.hid h
  have hglt := h.blk.lt
  obtain ⟨k, hk⟩ : ∃ k, wts.length = k := ⟨_, rfl⟩
  rw [hk] at hlen hd1 hc1
  have HK := Lib.hid hk
  have HL := Lib.hid hlen
  have hk1 : k ≤ 1000000 := by omega
  clear h hk hlen
  go_enter Try.func90, Try.ntmps90
  go_wp2_with fail
  refine HT.out.mono ?_
  rintro r w0 ⟨rfl, rfl⟩
  go_wp2_with fail
  go_loopw [6] (fun iv wr => ∃ j : Nat, j ≤ k ∧ iv = .int .i64 ((j : Int) - 1) ∧ sector s.img n = sector (imgOf s.S (s.ws.take j)) n ∧ wr = w) (fun v _ => (intOf v + 1).toNat)
  case atStart => exact ⟨k, Nat.le_refl _, rfl, by rw [List.take_of_length_le (by have := HL.out; omega)]; rfl, rfl⟩
  case round =>
    obtain ⟨j, hj, rfl, hsec, rfl⟩ := hrel
    have HS := Lib.hid hsec
    clear hsec
    rcases Nat.eq_zero_or_pos j with rfl | hj0
    · have hw1 : IntKind.i64.wrap ((n : Int) * 64) = (n : Int) * 64 := IntWalk.i64_in _ (by omega)
      have hw2 : IntKind.i64.wrap (((n : Int) + 1) * 64) = ((n : Int) + 1) * 64 := IntWalk.i64_in _ (by omega)
      have hrd := ((Rd.of_own H.out.sure).drop (64 * n)).take 64
      rw [Addr.add_lit, Nat.zero_add, ← List.map_drop, ← List.map_take, Nat.mul_comm 64 n] at hrd
      have HRD := Lib.hid hrd
      have e64 : (n + 1) * 64 - n * 64 = 64 := by omega
      clear hrd
      go_wp2_with fail
      rw [e64]
      have hsl : ((s.S.drop (n * 64)).take 64).length = 64 := by rw [List.length_take, List.length_drop]; omega
      refine (clone_any _ _ 64 _ ((s.S.drop (n * 64)).take 64) wr hsl (by omega) HRD.out).mono ?_
      rintro r w2 ⟨v2, rfl, ho2, hm2⟩
      have HO := Lib.hid ho2
      have HM := Lib.hid hm2
      clear ho2 hm2 hsl
      go_wp2_with fail
      go_ret2
      refine ⟨v2, rfl, ?_, HM.out⟩
      rw [HS.out]
      have : sector (imgOf s.S (s.ws.take 0)) n = (s.S.drop (n * 64)).take 64 := by rw [Nat.mul_comm]; rfl
      rw [this]
      exact HO.out
    · obtain ⟨i, rfl⟩ : ∃ i, j = i + 1 := ⟨j - 1, by omega⟩
      have hji : ((i + 1 : Nat) : Int) - 1 = (i : Int) := by omega
      rw [hji]
      obtain ⟨x, hx⟩ : ∃ x, wts[i]? = some x := ⟨_, List.getElem?_eq_getElem (by have := HK.out; omega)⟩
      have hxm := List.mem_of_getElem? hx
      obtain ⟨e1, e2⟩ := flatMap_cells wts i x hx
      obtain ⟨gw, cw, hgw, _, _⟩ := H.out.waits.form (by have := HK.out; omega)
      injection hgw with hC _ hd
      subst hC hd
      have hcl := H.out.waits.cells (g := gw) rfl
      have q1 := hcl _ _ e1
      have q2 := hcl _ _ e2
      rw [Addr.add_lit, Nat.zero_add] at q1 q2
      have hst : s.ws[i]? = some (x.at_, x.l) := by rw [H.out.st, List.getElem?_map, hx]; rfl
      have himg : imgOf s.S (s.ws.take (i + 1)) = layB (imgOf s.S (s.ws.take i)) x.at_ x.l := by rw [List.take_add_one, hst]; exact imgOf_snoc _ _ _
      have hwt := H.out.all x hxm
      have hxl := wt_len hwt
      have hil : (imgOf s.S (s.ws.take i)).length = s.S.length := imgOf_length (fun y hy => H.out.fits y (List.mem_of_mem_take hy))
      unfold Wt.v at q2
      by_cases hat : x.at_ = n
      · have hb : ((x.at_ : Int) == n) = true := by simp [hat]
        have hsm : sector s.img n = x.l := by rw [HS.out, himg, hat]; exact sector_same hxl (by omega)
        have HSM := Lib.hid hsm
        have HWT := Lib.hid hwt
        clear e1 e2 hcl hst himg hwt hx hil hji hsm
        go_wp2_with fail
        refine (clone_any _ _ 64 _ x.l wr hxl (by omega) (Rd.of_own HWT.out.1)).mono ?_
        rintro r w2 ⟨v2, rfl, ho2, hm2⟩
        have HO := Lib.hid ho2
        have HM := Lib.hid hm2
        clear ho2 hm2
        go_wp2_with fail
        go_ret2
        refine ⟨v2, rfl, ?_, HM.out⟩
        rw [HSM.out]
        exact HO.out
      · have hb : ((x.at_ : Int) == n) = false := by simp; omega
        have hsm : sector s.img n = sector (imgOf s.S (s.ws.take i)) n := by rw [HS.out, himg]; exact sector_other hxl (by have := hwt.2.1; omega) hat
        have HSM := Lib.hid hsm
        clear e1 e2 hcl hst himg hwt hx hil hji hsm q2
        go_wp2_with fail
        go_roundw
        case rel => exact ⟨i, by omega, rfl, HSM.out, trivial⟩
        case measure => simp [intOf] <;> omega
end Go.Proofs.Ytjmehamkpmimkaa
