/- Words for layer 3: copy as a step, append of elements of two cells, octets laid over octets; the contract of write.lay. -/
import Derived.Test.YtjmehamkpmimkaaCrcX
import Derived.Laws.CopyOwn
import Derived.BigRegion
namespace Go.Proofs.Ytjmehamkpmimkaa
open Go.RowKit

theorem Mod.setRow {F : Nat → Prop} {a w : World} (h : Mod F a w) {g : Nat} (hg : F g) (cs : Array Value) : Mod F a (w.setRow g cs) :=
  ⟨h.os, h.tape, h.output, by simpa [World.setRow] using h.size, fun i hi hn => (setRow_other w g i cs (fun e => hn (e ▸ hg))).trans (h.block i hi hn)⟩

section
variable {P : Program}
theorem step_copy1 {ops : Array Oper} {o : Oper} {a : Act} {w : World} {K : Act → World → Prop} {Q : Exit → Act → World → Prop} {E : Prop} (hgd : o.guard = none) (d s : Operand) (dT sT : TypeId)
    (ho : o.op = .call { callee := .builtin .copy, args := #[d, s], argTypes := #[dT, sT] }) (elem : TypeId) (hu : P.underlying dT = some (.slice elem)) (hsz : (P.info? elem).map (·.size) = some 1)
    (dp sp : Option Addr) (dLen dCap sLen sCap : Nat) (hd : a.eval d = .slice dp dLen dCap) (hs : a.eval s = .slice sp sLen sCap)
    (g off : Nat) (cur : List Value) (t : TypeId) (hg : w.heap[g]? = some (.cells cur.toArray t (0, 0))) (cs : List Value) (hn : cs.length = Nat.min sLen dLen)
    (hpos : 0 < cs.length → dp = some ⟨g, off, none⟩ ∧ ∃ ad, sp = some ad ∧ ∀ j v, cs[j]? = some v → w.cell? (ad.add j) = some v)
    (hfit : off + cs.length ≤ cur.length) (h1 : ∀ v ∈ cs, v.oneCell' = true)
    (h : ∀ w', RowKit.Hid (w'.heap[g]? = some (.cells (splice cur off cs).toArray t (0, 0))) → Hid (Mod (fun k => k = g) w w') → K (a.put o.dst (goInt cs.length)) w') :
    if Region.wanted o (yielded ops a.tmps) = true then Oper.wp P o a w K Q else E := by
  have hw : Region.wanted o (yielded ops a.tmps) = true := by simp [Region.wanted, hgd]
  rw [if_pos hw]
  by_cases h0 : cs.length = 0
  · obtain rfl : cs = [] := List.eq_nil_of_length_eq_zero h0
    have hrun := run_copy_none (P := P) w dT sT o.type elem dp sp dLen dCap sLen sCap hu hsz (by simpa using hn.symm)
    unfold Oper.wp
    simp [execOp, ho, resolve, invoke, builtin, hd, hs, hrun, Result.andThen]
    exact h w (show _ = _ by simpa [splice] using hg) (Lib.hid (Mod.refl _ _))
  · obtain ⟨rfl, ad, rfl, hsrc⟩ := hpos (by omega)
    have hrun := run_copy_row (P := P) w dT sT o.type elem g off dLen dCap ad sLen sCap cur.toArray t cs hu hsz hg hn hsrc (by simpa using hfit) h1
    unfold Oper.wp
    simp [execOp, ho, resolve, invoke, builtin, hd, hs, hrun, Result.andThen]
    exact h _ (show _ = _ by simpa [splice] using setRow_heap w g _ _ t _ hg) (Lib.hid ((Mod.refl (fun k => k = g) w).setRow (g := g) rfl _))
end

/-- Octets laid over octets, from a place on. -/
def layB (S : List UInt8) (at_ : Nat) (b : List UInt8) : List UInt8 := splice S (64 * at_) b

theorem layB_length {S : List UInt8} {at_ : Nat} {b : List UInt8} (h : 64 * at_ + b.length ≤ S.length) : (layB S at_ b).length = S.length := length_splice _ _ _ h

theorem splice_map {α β : Type} (f : α → β) (L : List α) (off : Nat) (cs : List α) : (splice L off cs).map f = splice (L.map f) off (cs.map f) := by
  simp [splice, List.map_take, List.map_drop]

theorem take_splice {α : Type} (L : List α) (off : Nat) (cs : List α) (N : Nat) (h : off + cs.length ≤ N) (hN : N ≤ L.length) : (splice L off cs).take N = splice (L.take N) off cs := by
  have hoff : (L.take off).length = off := by rw [List.length_take]; omega
  unfold splice
  rw [List.take_append, List.take_append, hoff, List.take_take, List.take_take, Nat.min_eq_right (by omega), Nat.min_eq_left (by omega), List.take_of_length_le (l := cs) (by omega), List.drop_take]
  congr 3
  omega

/-- A row of the call's own behind a copy into it. -/
theorem own_splice {w w' : World} {B : Nat} {e : TypeId} {g N c : Nat} {xs cs : List Value} {off : Nat} {cur : Array Value} (h : w.ownsRow B e 1 (.slice (some ⟨g, 0, none⟩) N c) N xs)
    (hg : w.heap[g]? = some (.cells cur e (0, 0))) (hg' : w'.heap[g]? = some (.cells (splice cur.toList off cs).toArray e (0, 0))) (hfit : off + cs.length ≤ N) :
    w'.ownsRow B e 1 (.slice (some ⟨g, 0, none⟩) N c) N (splice xs off cs) := by
  have hl := h.1
  rcases h.2 with ⟨hv, _⟩ | ⟨g', cap, cur', hv, hb, hh, h1, h2, h3, h4⟩
  · cases hv
  · injection hv with hA hn hc
    injection hA with hA
    injection hA with hA
    subst hA hc
    rw [hg] at hh
    injection hh with hh
    injection hh with hh
    subst hh
    have hcl : cur.toList.length = c := by simp [h3]
    refine ⟨by rw [length_splice _ _ _ (by omega)]; exact hl, .inr ⟨g, c, _, rfl, hb, hg', h1, h2, ?_, ?_⟩⟩
    · rw [List.size_toArray, length_splice _ _ _ (by omega)]; omega
    · rw [List.toList_toArray]
      rw [take_splice _ _ _ _ (by omega) (by omega), h4]

theorem own_heap {w : World} {B : Nat} {e : TypeId} {g N c size : Nat} {xs : List Value} (h : w.ownsRow B e size (.slice (some ⟨g, 0, none⟩) N c) N xs) : ∃ cur : Array Value, w.heap[g]? = some (.cells cur e (0, 0)) ∧ N ≤ c ∧ c ≤ maxLen ∧ cur.size = c * size ∧ B ≤ g := by
  rcases h.2 with ⟨hv, _⟩ | ⟨g', cap, cur', hv, hb, hh, h1, h2, h3, h4⟩
  · cases hv
  · injection hv with hA hn hc
    injection hA with hA
    injection hA with hA
    subst hA hc
    exact ⟨cur', hh, h1, h2, h3, hb⟩

set_option maxHeartbeats 1600000 in
set_option maxRecDepth 100000 in
theorem lay_any (B gi N ci at_ xb cap n : Nat) (I l : List UInt8) (w : World) (hown : w.ownsRow B 5 1 (.slice (some ⟨gi, 0, none⟩) N ci) N (I.map bv)) (hrd : Rd All w (some ⟨xb, 0, none⟩) (l.map bv))
    (hl : l.length = 64) (hcap : 64 ≤ cap) (hcap2 : cap ≤ maxLen) (hat : 64 * at_ + 64 ≤ N) (hn : n ≤ 64) (hN : N ≤ 4194304) :
    Calls Try.prog 66 #[.agg #[.int .i64 at_, .slice (some ⟨xb, 0, none⟩) 64 cap], .slice (some ⟨gi, 0, none⟩) N ci, .int .i64 n] w fun r w' =>
      r = .returned (.tuple #[]) ∧ w'.ownsRow B 5 1 (.slice (some ⟨gi, 0, none⟩) N ci) N ((layB I at_ (l.take n)).map bv) ∧ Mod (fun k => k = gi) w w' := by
  obtain ⟨cur, hg, hc1, hc2, hcs, hB⟩ := own_heap hown
  have hgl : gi < w.heap.size := (Array.getElem?_eq_some_iff.1 hg).1
  have HOWN := Lib.hid hown
  have HRD := Lib.hid hrd
  have hw64 : IntKind.i64.wrap ((at_ : Int) * 64) = (at_ : Int) * 64 := IntWalk.i64_in _ (by omega)
  have hmax : maxLen = 9223372036854775807 := rfl
  have HG := Lib.hid hg
  have HRC := Lib.hid (show ∀ (j : Nat) (u : Value), ((l.take n).map bv)[j]? = some u → ((w.alloc (.cells #[.int .i64 at_, .slice (some ⟨xb, 0, none⟩) 64 cap] 103)).drew).cell? ((⟨xb, 0, none⟩ : Addr).add j) = some u from fun j u hu => by
    obtain ⟨ad, e, _, _, hc⟩ := (hrd.keep0 (((Mod.refl Nil w).alloc (.cells #[.int .i64 at_, .slice (some ⟨xb, 0, none⟩) 64 cap] 103)).drew)) (by simp; omega)
    injection e with e
    subst e
    refine hc j u ?_
    rw [List.map_take, List.getElem?_take] at hu
    split at hu
    · exact hu
    · cases hu)
  clear hown hrd hg
  go_enter Try.func66, Try.ntmps66
  go_wp2_with fail
  have h64 : (0 : Int) ≤ (at_ : Int) * 64 := by omega
  have h65 : (at_ : Int) * 64 ≤ N := by omega
  have h66 : ¬ (ci = 64 * at_) := by omega
  have hx : ((at_ : Int) * 64).toNat = 64 * at_ := by omega
  obtain ⟨cs, hcsd⟩ : ∃ cs, cs = (l.take n).map bv := ⟨_, rfl⟩
  have hcl : cs.length = n := by rw [hcsd, List.length_map, List.length_take]; omega
  have HCS := Lib.hid hcsd
  have H1 := Lib.hid (show ∀ v ∈ cs, v.oneCell' = true from hcsd ▸ bv_one _)
  clear hcsd
  have hnc : n ≤ cap := by omega
  have HWA := Lib.hid (((Mod.refl Nil w).alloc (.cells #[.int .i64 at_, .slice (some ⟨xb, 0, none⟩) 64 cap] 103)).drew)
  have HCUR := Lib.hid hcs
  go_region_law (refine step_copy1 rfl (.tmp 10) (.tmp 14) 36 36 rfl 5 Try.underlying36 (by kernel_rfl) (some ⟨gi, 64 * at_, none⟩) (some ⟨xb, 0, none⟩) (N - 64 * at_) (ci - 64 * at_) n cap rfl rfl gi (64 * at_) cur.toList 5 ((HWA.out.block gi hgl id).trans HG.out) cs (hcl.trans (Nat.min_eq_left (by omega)).symm) (fun _ => ⟨rfl, _, rfl, fun j u hu => HRC.out j u (HCS.out ▸ hu)⟩) (by have := HCUR.out; simp; omega) H1.out ?_; intro w2 HG2 HM2)
  all_goals
    go_end0
    refine ⟨rfl, ?_, (HWA.out.any.trans HM2.out)⟩
    have := own_splice HOWN.out HG.out HG2.out (by omega)
    rw [HCS.out, ← splice_map] at this
    exact this
end Go.Proofs.Ytjmehamkpmimkaa
