/- Parts of the proof of CodeRunsUpto, joined: Que CodI CodJ CodK CodL CodM. -/
import Derived.Test.YtefloadjolpgbaaDoorCodeRunsUptoj9
import Derived.Deep.MidRow
import Derived.Laws.ResultCell
import Derived.Laws.CopyOwn
import Derived.Laws.MakeOwn
import Derived.BigRegion
namespace Go.Proofs.YtefloadjolpgbaaDoor
open Go.RowKit

/-- A queue: nil, or within a block of its own. -/
def QRow (w : World) (base : Nat) (e : TypeId) (v : Value) (n : Nat) (xs : List Value) : Prop :=
  xs.length = n ∧ ((v = .slice none 0 0 ∧ n = 0) ∨
    ∃ g off cap cur, v = .slice (some ⟨g, off, none⟩) n cap ∧ base ≤ g ∧ w.heap[g]? = some (.cells cur e (0, 0)) ∧ n ≤ cap ∧ cap ≤ maxLen ∧ off + cap ≤ cur.size ∧ ∀ j u, xs[j]? = some u → cur[off + j]? = some u)

theorem QRow.keep {w w' : World} {F : Nat → Prop} {base : Nat} {e : TypeId} {v : Value} {n : Nat} {xs : List Value} (h : QRow w base e v n xs) (hm : Mod F w w') (hF : ∀ k, F k → k < base) : QRow w' base e v n xs := by
  obtain ⟨h1, h2 | ⟨g, off, cap, cur, hv, hb, hg, r⟩⟩ := h
  · exact ⟨h1, .inl h2⟩
  · exact ⟨h1, .inr ⟨g, off, cap, cur, hv, hb, (hm.block g (Array.getElem?_eq_some_iff.1 hg).1 (fun hf => by have := hF g hf; omega)).trans hg, r⟩⟩

theorem QRow.lt {w : World} {base : Nat} {e : TypeId} {v : Value} {n : Nat} {xs : List Value} (h : QRow w base e v n xs) : ∀ k, v.ownBlock = some k → base ≤ k ∧ k < w.heap.size := fun k hk => by
  obtain ⟨_, ⟨rfl, _⟩ | ⟨g, off, cap, cur, rfl, hb, hg, _⟩⟩ := h
  · cases hk
  · cases hk
    exact ⟨hb, (Array.getElem?_eq_some_iff.1 hg).1⟩
theorem QRow.rd {w : World} {base : Nat} {e : TypeId} {v : Value} {n : Nat} {xs : List Value} (h : QRow w base e v n xs) (h0 : 0 < n) :
    ∃ g off cap, v = .slice (some ⟨g, off, none⟩) n cap ∧ n ≤ cap ∧ cap ≤ maxLen ∧ base ≤ g ∧ g < w.heap.size ∧ ∀ j u, xs[j]? = some u → w.cell? ⟨g, off + j, none⟩ = some u := by
  obtain ⟨h1, ⟨rfl, h2⟩ | ⟨g, off, cap, cur, hv, hb, hg, h3, h4, h5, h6⟩⟩ := h
  · omega
  · refine ⟨g, off, cap, hv, h3, h4, hb, (Array.getElem?_eq_some_iff.1 hg).1, fun j u hu => ?_⟩
    rw [cell_of_row w g (off + j) cur e (0, 0) hg]
    exact h6 j u hu

/-- The first taken away: what 's[1:]' leaves. -/
theorem QRow.tail {w : World} {base : Nat} {e : TypeId} {g off cap n : Nat} {x : Value} {xs : List Value} (h : QRow w base e (.slice (some ⟨g, off, none⟩) (n + 1) cap) (n + 1) (x :: xs)) :
    (cap = 1 → QRow w base e (.slice (some ⟨g, off, none⟩) n (cap - 1)) n xs) ∧ QRow w base e (.slice (some ⟨g, off + 1, none⟩) n (cap - 1)) n xs := by
  obtain ⟨h1, ⟨hv, h2⟩ | ⟨g', off', cap', cur, hv, hb, hg, h3, h4, h5, h6⟩⟩ := h
  · cases hv
  · injection hv with hv1 hv2 hv3
    injection hv1 with hv1
    injection hv1 with e1 e2
    subst e1 e2 hv3
    refine ⟨fun hc => ⟨by simpa using h1, .inr ⟨g, off, cap - 1, cur, rfl, hb, hg, by omega, by omega, by omega, fun j u hu => ?_⟩⟩, ⟨by simpa using h1, .inr ⟨g, off + 1, cap - 1, cur, rfl, hb, hg, by omega, by omega, by omega, fun j u hu => ?_⟩⟩⟩
    · have := (List.getElem?_eq_some_iff.1 hu).1
      simp at h1
      omega
    · rw [show off + 1 + j = off + (j + 1) by omega]
      exact h6 (j + 1) u (by simpa using hu)

section
variable {P : Program} (w : World)

theorem run_append_mid (t ty e : TypeId) (i : TypeInfo) (ht : P.underlying t = some (.slice e)) (hi : P.info? e = some i) (h1s : i.size = 1)
    (g off sLen sCap : Nat) (cur : Array Value) (hg : w.heap[g]? = some (.cells cur e (0, 0)))
    (a : Addr) (m c : Nat) (news : List Value) (hl : news.length = m) (hnews : ∀ j u, news[j]? = some u → w.cell? (a.add j) = some u) (h1 : ∀ u ∈ news, u.oneCell' = true)
    (hroom : sLen + m ≤ sCap) (hfit : off + sCap ≤ cur.size) :
    (Builtin.append_ #[t, t] ty #[.slice (some ⟨g, off, none⟩) sLen sCap, .slice (some a) m c]).run P w =
      .ok (.slice (some ⟨g, off, none⟩) (sLen + m) sCap) (w.setRow g (cur.toList.take (off + sLen) ++ news ++ cur.toList.drop (off + sLen + news.length)).toArray) := by
  have hf := run_firstCells_some (P := P) w i.size m a m c news (by rw [h1s]; omega) hnews
  have hst := run_storeCells_at P g (off + sLen) e news 0 cur w hg (by simp only [Nat.add_zero]; omega) h1
  simp only [Nat.add_zero] at hst
  rw [h1s] at hf
  simp [Builtin.append_, run_underlying ht, sizeOf, typeInfo, hi, Builtin.lenOf, hroom, hf, Addr.add_mid, hst, h1s]

theorem run_append_que (base : Nat) (t ty e : TypeId) (i : TypeInfo) (z : Value) (bytes : Nat) (ht : P.underlying t = some (.slice e)) (hi : P.info? e = some i) (hz : i.zero = some z)
    (hsize : i.size = 1) (hby : i.bytes = bytes) (hzs : z.cells.size = 1)
    (v : Value) (n : Nat) (xs : List Value) (hown : QRow w base e v n xs)
    (a : Addr) (c : Nat) (u : Value) (hnews : w.cell? a = some u) (h1 : u.oneCell' = true)
    (h63 : n + 1 ≤ maxLen) (hbytes : (n + 1) * bytes ≤ 140737488355328) (hbase : base ≤ w.heap.size) :
    ∃ v' w', (Builtin.append_ #[t, t] ty #[v, .slice (some a) 1 c]).run P w = .ok v' w' ∧ QRow w' base e v' (n + 1) (xs ++ [u]) ∧ Mod (fun k => v.ownBlock = some k) w w' ∧ (∀ k, v'.ownBlock = some k → v.ownBlock = some k ∨ w.heap.size ≤ k) := by
  have hn1 : ∀ j x, [u][j]? = some x → w.cell? (a.add j) = some x := fun j x hj => by
    rcases j with _ | j
    · cases hj
      rw [show a.add 0 = a by unfold Addr.add; split <;> simp_all]
      exact hnews
    · cases hj
  have hu1 : ∀ x ∈ [u], x.oneCell' = true := fun x hx => by simp at hx; rw [hx]; exact h1
  have hsmall : n + 1 ≤ 9223372036854775807 := by simp only [maxLen] at h63; omega
  obtain ⟨hxl, ⟨rfl, rfl⟩ | ⟨g, off, cap, cur, rfl, hb, hg, hnc, hcm, hcs, hcur⟩⟩ := hown
  · have hx : xs = [] := List.eq_nil_of_length_eq_zero hxl
    subst hx
    have hr := run_append_nil (P := P) w t ty e i z ht hi hz a 1 c [u] (by simp [hsize]) hn1 (by omega) (by omega) (by rw [hby]; omega)
    have hge := grownCap_ge w 1 0 e
    refine ⟨_, _, hr, ⟨by simp, .inr ⟨w.heap.size, 0, _, _, by simp, hbase, heap_alloc_new w.drew _, hge, grownCap_le_maxLen w 1 0 e (by simp only [maxLen]; omega), ?_, fun j x hj => ?_⟩⟩, (Mod.refl _ w).drew.alloc _, fun k hk => .inr (by cases hk; exact Nat.le_refl _)⟩
    · simp only [Array.size_append, List.size_toArray, size_zeroCells, hzs, List.length_cons, List.length_nil]
      omega
    · rcases j with _ | j
      · rw [Nat.zero_add, Array.getElem?_append_left (by simp)]
        simpa using hj
      · cases hj
  · by_cases hroom : n + 1 ≤ cap
    · have hr := run_append_mid (P := P) w t ty e i ht hi hsize g off n cap cur hg a 1 c [u] (by simp) hn1 hu1 hroom hcs
      have hmod : Mod (fun k => (Value.slice (some ⟨g, off, none⟩) n cap).ownBlock = some k) w (w.setRow g (cur.toList.take (off + n) ++ [u] ++ cur.toList.drop (off + n + [u].length)).toArray) := by
        refine ⟨rfl, rfl, rfl, by simp [World.setRow], fun k _ hk => setRow_other w g k _ (fun e => hk (by simp [Value.ownBlock, e]))⟩
      have hlt : (cur.toList.take (off + n)).length = off + n := by rw [List.length_take, Array.length_toList]; omega
      refine ⟨_, _, hr, ⟨by simp [hxl], .inr ⟨g, off, cap, _, rfl, hb, setRow_heap w g cur _ e _ hg, hroom, hcm, ?_, fun j x hj => ?_⟩⟩, hmod, fun k hk => .inl hk⟩
      · simp only [List.size_toArray, List.length_append, hlt, List.length_drop, Array.length_toList, List.length_cons, List.length_nil]
        omega
      · rw [List.getElem?_toArray, List.append_assoc]
        rcases Nat.lt_or_ge j n with h | h
        · rw [List.getElem?_append_left (by omega), List.getElem?_take, if_pos (by omega)]
          rw [List.getElem?_append_left (by omega)] at hj
          simpa using hcur j x hj
        · rw [List.getElem?_append_right (by omega), hlt]
          rw [List.getElem?_append_right (by omega), hxl] at hj
          have : j - n = 0 := by have := (List.getElem?_eq_some_iff.1 hj).1; simp at this; omega
          rw [this] at hj
          rw [show off + j - (off + n) = 0 by omega]
          simpa using hj
    · have holds : ∀ j x, xs[j]? = some x → w.cell? ((⟨g, off, none⟩ : Addr).add j) = some x := fun j x hj => by
        rw [Addr.add_mid, cell_of_row w g (off + j) cur e (0, 0) hg]
        exact hcur j x hj
      have hr := run_append_grow (P := P) w t ty e i z ht hi hz ⟨g, off, none⟩ n cap xs (by rw [hsize]; omega) holds a 1 c [u] (by simp [hsize]) hn1 (by omega) (by omega) (growslice_fits (by omega) (by rw [hby]; exact hbytes))
      have hge := grownCap_ge w (n + 1) cap e
      refine ⟨_, _, hr, ⟨by simp [hxl], .inr ⟨w.heap.size, 0, _, _, rfl, hbase, heap_alloc_new w.drew _, hge, grownCap_le_maxLen w (n + 1) cap e h63, ?_, fun j x hj => ?_⟩⟩, (Mod.refl _ w).drew.alloc _, fun k hk => .inr (by cases hk; exact Nat.le_refl _)⟩
      · simp only [Array.size_append, List.size_toArray, size_zeroCells, hzs, hxl, List.length_cons, List.length_nil]
        omega
      · have hjl := (List.getElem?_eq_some_iff.1 hj).1
        simp at hjl
        rw [Nat.zero_add, Array.getElem?_append_left (by simp; omega)]
        have e0 : (xs.toArray ++ [u].toArray) = (xs ++ [u]).toArray := by simp
        rw [e0, List.getElem?_toArray]
        exact hj

theorem op_append_que {o : Oper} {a : Act} {K : Act → World → Prop} {Q : Exit → Act → World → Prop} (s x : Operand) (t : TypeId)
    (ho : o.op = .call { callee := .builtin .append, args := #[s, x], argTypes := #[t, t] })
    (base : Nat) (e : TypeId) (i : TypeInfo) (z : Value) (bytes : Nat) (ht : P.underlying t = some (.slice e)) (hi : P.info? e = some i) (hz : i.zero = some z)
    (hsize : i.size = 1) (hby : i.bytes = bytes) (hzs : z.cells.size = 1)
    (v : Value) (n : Nat) (xs : List Value) (hs : a.eval s = v) (hown : QRow w base e v n xs)
    (ad : Addr) (c : Nat) (u : Value) (hx : a.eval x = .slice (some ad) 1 c) (hnews : w.cell? ad = some u) (h1 : u.oneCell' = true)
    (h63 : n + 1 ≤ maxLen) (hbytes : (n + 1) * bytes ≤ 140737488355328) (hbase : base ≤ w.heap.size)
    (h : ∀ v' w', QRow w' base e v' (n + 1) (xs ++ [u]) → Mod (fun k => v.ownBlock = some k) w w' → (∀ k, v'.ownBlock = some k → v.ownBlock = some k ∨ w.heap.size ≤ k) → K (a.put o.dst v') w') : o.wp P a w K Q := by
  obtain ⟨v', w', hr, h2, h3, h4⟩ := run_append_que (P := P) w base t o.type e i z bytes ht hi hz hsize hby hzs v n xs hown ad c u hnews h1 h63 hbytes hbase
  unfold Oper.wp execOp
  simp only [ho, resolve, invoke, builtin, Sem.run_bind, Sem.run_pure, Result.andThen_ok, List.map_toArray, List.map_cons, List.map_nil, hs, hx, hr]
  exact h v' w' h2 h3 h4
end
end Go.Proofs.YtefloadjolpgbaaDoor

namespace Go.Proofs.YtefloadjolpgbaaDoor
open Go.RowKit

/-- The checker: the code and what is around it. -/
def kArr (c : CodeT) (v : CodeV) (A5 : Option Addr) (n5 c5 : Nat) : Array Value := #[.int .i64 c.args, .int .i64 c.vars, .slice v.A2 c.lits.length v.c2, .slice v.A3 c.ins.length v.c3, .slice v.A4 c.blocks.length v.c4, .string (str c.cls), .slice A5 n5 c5]
def litA (x : LitT) : Array Value := #[.int .i64 x.kind, .int .i64 x.n, .string (str x.text)]
def litGet (c : CodeT) (i : Int) : Option LitT := if 0 ≤ i then c.lits[i.toNat]? else none
def lit0 : LitT := ⟨0, 0, []⟩
def litZ : Array Value := #[.int .i64 0, .int .i64 0, .string ⟨#[]⟩]

theorem k_boxed {w : World} {g : Nat} {c : CodeT} {v : CodeV} {A5 : Option Addr} {n5 c5 : Nat} (h : Blk w g 41 (kArr c v A5 n5 c5)) :
    w.cell? ⟨g, 0, none⟩ = some (.int .i64 c.args) ∧ w.cell? ⟨g, 1, none⟩ = some (.int .i64 c.vars) ∧ w.cell? ⟨g, 2, none⟩ = some (.slice v.A2 c.lits.length v.c2) ∧ w.cell? ⟨g, 3, none⟩ = some (.slice v.A3 c.ins.length v.c3) ∧
      w.cell? ⟨g, 4, none⟩ = some (.slice v.A4 c.blocks.length v.c4) ∧ w.cell? ⟨g, 5, none⟩ = some (.string (str c.cls)) ∧ w.cell? ⟨g, 6, none⟩ = some (.slice A5 n5 c5) :=
  ⟨h.cell 0, h.cell 1, h.cell 2, h.cell 3, h.cell 4, h.cell 5, h.cell 6⟩
theorem lit_load {w : World} {g : Nat} {cs : Array Value} (hb : Blk w g 45 cs) (hs : cs.size = 3) : (loadVar 45 ⟨g, 0, none⟩).run Tryd.prog w = .ok (.agg cs) w :=
  run_loadVar_row w g 45 45 cs (0, 0) _ hb Tryd.underlying45 rfl (by rw [hs]; kernel_rfl)
theorem lit_facts {w : World} {g : Nat} (hb : Blk w g 45 litZ) :
    w.cell? ⟨g, 0, none⟩ = some (.int .i64 0) ∧ w.cell? ⟨g, 1, none⟩ = some (.int .i64 0) ∧ w.cell? ⟨g, 2, none⟩ = some (.string ⟨#[]⟩) ∧
      w.frozen? ⟨g, 0, none⟩ = false ∧ w.frozen? ⟨g, 1, none⟩ = false ∧ w.frozen? ⟨g, 2, none⟩ = false :=
  ⟨hb.cell 0, hb.cell 1, hb.cell 2, hb.frozen 0, hb.frozen 1, hb.frozen 2⟩
/-- A literal stored whole. -/
def litSet (w : World) (g : Nat) (x : LitT) : World := ((w.setCell ⟨g, 0, none⟩ (.int .i64 x.kind)).setCell ⟨g, 1, none⟩ (.int .i64 x.n)).setCell ⟨g, 2, none⟩ (.string (str x.text))
theorem litSet_blk {w : World} {g : Nat} {cs : Array Value} (hb : Blk w g 45 cs) (hs : cs.size = 3) (x : LitT) : Blk (litSet w g x) g 45 (litA x) := by
  have h := ((hb.set_ 0 (.int .i64 x.kind)).set_ 1 (.int .i64 x.n)).set_ 2 (.string (str x.text))
  rcases cs with ⟨_ | ⟨a, _ | ⟨b, _ | ⟨c, _ | ⟨d, r⟩⟩⟩⟩⟩ <;> simp at hs
  unfold litSet litA
  simpa using h
theorem litSet_mod {F : Nat → Prop} {w0 w : World} {g : Nat} (hm : Mod F w0 w) (hg : F g ∨ w0.heap.size ≤ g) (x : LitT) : Mod F w0 (litSet w g x) := ((hm.set hg _).set hg _).set hg _
def LitRes (c : CodeT) (i : Int) (w : World) (e : Ending) (w' : World) : Prop := e = .returned (.tuple #[.agg (litA ((litGet c i).getD lit0)), .bool (litGet c i).isSome]) ∧ Mod Nil w w'
theorem lit_end {c : CodeT} {i : Int} {w w3 : World} {a : Act} {g : Nat} {x : LitT} (hb : Blk w3 g 45 (litA x)) (hm : Mod Nil w w3) (hx : litGet c i = some x)
    (hp : a.tmps.getD 4 undef = .pointer (some ⟨g, 0, none⟩)) (h3 : a.tmps.getD 5 undef = .bool true) (hd : a.defers = []) :
    bodyPost Tryd.prog Tryd.f51 (fun e w' => LitRes c i w e w') .ret a w3 := by
  refine bodyPost_ret (v := .tuple #[.agg (litA x), .bool true]) ?_ hd ⟨by rw [hx]; rfl, hm⟩
  rw [results_cell_tmp rfl, hp]
  have := lit_load hb rfl
  simp [asAddr, Result.andThen, this, h3]
theorem lit_end0 {c : CodeT} {i : Int} {w w3 : World} {a : Act} {g : Nat} (hb : Blk w3 g 45 litZ) (hm : Mod Nil w w3) (hx : litGet c i = none)
    (hp : a.tmps.getD 4 undef = .pointer (some ⟨g, 0, none⟩)) (h3 : a.tmps.getD 5 undef = .bool false) (hd : a.defers = []) :
    bodyPost Tryd.prog Tryd.f51 (fun e w' => LitRes c i w e w') .ret a w3 := by
  refine bodyPost_ret (v := .tuple #[.agg litZ, .bool false]) ?_ hd ⟨by rw [hx]; rfl, hm⟩
  rw [results_cell_tmp rfl, hp]
  have := lit_load hb rfl
  simp [asAddr, Result.andThen, this, h3]

set_option maxHeartbeats 1600000 in
set_option maxRecDepth 100000 in
theorem kLit_any (c : CodeT) (v : CodeV) (A5 : Option Addr) (n5 c5 : Nat) (i : Int) (w : World) (hf : ∀ w', Mod Nil w w' → CodeF w' c v) : Calls Tryd.prog 51 #[.agg (kArr c v A5 n5 c5), .int .i64 i] w fun e w' => LitRes c i w e w' := by
  have hbk : Blk (w.alloc (.cells (kArr c v A5 n5 c5) 41)) w.heap.size 41 (kArr c v A5 n5 c5) := Blk.new _ _ _
  have hm1 := (Mod.refl Nil w).alloc (.cells (kArr c v A5 n5 c5) 41)
  have hs1 : (w.alloc (.cells (kArr c v A5 n5 c5) 41)).heap.size = w.heap.size + 1 := by simp
  generalize hW : w.alloc (.cells (kArr c v A5 n5 c5) 41) = W1 at hbk hm1 hs1
  have hb2 : Blk (W1.alloc (.cells litZ 45)) W1.heap.size 45 litZ := Blk.new _ _ _
  have hm2 := hm1.alloc (.cells litZ 45)
  have hbk2 := hbk.keep ((Mod.refl Nil W1).alloc (.cells litZ 45)) id
  rw [hs1] at hb2
  obtain ⟨c0, c1, c2, c3, c4, c5', c6⟩ := k_boxed hbk2
  obtain ⟨hk0, hk1, hk2, hf0, hf1, hf2⟩ := lit_facts hb2
  have HB := Lib.hid hb2
  have HM := Lib.hid hm2
  have HF := Lib.hid (hf _ hm2)
  clear hbk hbk2 hb2 hm1 hm2 hf
  have HS := Lib.hid hs1
  subst hW
  unfold kArr litZ at *
  by_cases hi0 : i < 0
  · have hq : decide (i < 0) = true := by simpa using hi0
    have HX := Lib.hid (show litGet c i = none by unfold litGet; rw [if_neg (by omega)])
    go_enter Tryd.func51, Tryd.ntmps51
    go_wp2_with fail
    try simp only [Exit.inBlock, Exit.then]
    refine lit_end0 (c := c) HB.out HM.out HX.out ?_ ?_ ?_ <;> rfl
  · obtain ⟨j, rfl⟩ : ∃ j : Nat, i = j := ⟨i.toNat, by omega⟩
    have hq : decide ((j : Int) < 0) = false := by simp
    by_cases hlt : j < c.lits.length
    · obtain ⟨x, hx⟩ : ∃ x, c.lits[j]? = some x := ⟨_, List.getElem?_eq_getElem hlt⟩
      obtain ⟨ad, hA, hadl, a0, a1, a2⟩ := eqLit_at HF.out.r2 hx
      have HX := Lib.hid (show litGet c j = some x by unfold litGet; rw [if_pos (by omega), Int.toNat_natCast, hx])
      have hq2 : decide ((c.lits.length : Int) ≤ (j : Int)) = false := by simpa using hlt
      have hlt' : (j : Int) < (c.lits.length : Int) := by omega
      obtain ⟨A2, c2v, A3, c3v, A4, c4v⟩ := v
      simp only at hA
      subst hA
      simp only at *
      clear hx HF
      generalize c.lits.length = n at *
      have HB2 := Lib.hid (show Blk ((w.alloc (.cells #[.int .i64 c.args, .int .i64 c.vars, .slice (some ad) n c2v, .slice A3 c.ins.length c3v, .slice A4 c.blocks.length c4v, .string (str c.cls), .slice A5 n5 c5] 41)).alloc (.cells (litA x) 45)) (w.heap.size + 1) 45 (litA x) by rw [← HS.out]; exact Blk.new _ _ _)
      have HM2 := Lib.hid (((Mod.refl Nil w).alloc (.cells #[.int .i64 c.args, .int .i64 c.vars, .slice (some ad) n c2v, .slice A3 c.ins.length c3v, .slice A4 c.blocks.length c4v, .string (str c.cls), .slice A5 n5 c5] 41)).alloc (.cells (litA x) 45))
      unfold litA at HB2 HM2
      go_enter Tryd.func51, Tryd.ntmps51
      go_wp2_with fail
      try simp only [Exit.inBlock, Exit.then]
      refine lit_end (c := c) (g := w.heap.size + 1) (x := x) HB2.out HM2.out HX.out ?_ ?_ ?_ <;> rfl
    · have HX := Lib.hid (show litGet c j = none by unfold litGet; rw [if_pos (by omega), Int.toNat_natCast, List.getElem?_eq_none (by omega)])
      have hq2 : decide ((c.lits.length : Int) ≤ (j : Int)) = true := by simp; omega
      clear HF
      go_enter Tryd.func51, Tryd.ntmps51
      go_wp2_with fail
      try simp only [Exit.inBlock, Exit.then]
      refine lit_end0 (c := c) HB.out HM.out HX.out ?_ ?_ ?_ <;> rfl
end Go.Proofs.YtefloadjolpgbaaDoor

namespace Go.Proofs.YtefloadjolpgbaaDoor
open Go.RowKit

/-- May it stand there: all instructions but those at variables (those that send are walked elsewhere: their region draws). -/
def mayL (c : CodeT) (na : Nat) (x : InsT) : Bool :=
  if x.op = 0 then (match litGet c x.a with | none => false | some l => !(l.kind == 4))
  else if x.op = 1 then (match litGet c x.a with | none => false | some l => l.kind == 4 && nmClass l.text)
  else if x.op = 8 ∨ x.op = 9 then (match litGet c x.a with | none => false | some l => l.kind == 4 && nmVar l.text)
  else if x.op = 10 ∨ x.op = 11 then (match litGet c x.a with | none => false | some l => l.kind == 3 && decide (0 ≤ x.b) && (nmArgs l.text == x.b))
  else if x.op = 12 then decide (0 ≤ x.a) && decide (x.a < c.blocks.length)
  else if x.op = 13 then decide (0 ≤ x.a) && decide (x.a ≤ 1000)
  else if x.op = 16 then decide (0 < na)
  else decide (2 ≤ x.op) && decide (x.op ≤ 19)

theorem may_cases (o : Int) : o = 0 ∨ o = 1 ∨ o = 6 ∨ o = 7 ∨ o = 8 ∨ o = 9 ∨ o = 10 ∨ o = 11 ∨ o = 12 ∨ o = 13 ∨ o = 16 ∨ (o ≠ 0 ∧ o ≠ 1 ∧ o ≠ 6 ∧ o ≠ 7 ∧ o ≠ 8 ∧ o ≠ 9 ∧ o ≠ 10 ∧ o ≠ 11 ∧ o ≠ 12 ∧ o ≠ 13 ∧ o ≠ 16) := by omega

set_option maxHeartbeats 3200000 in
set_option maxRecDepth 100000 in
theorem kMay_any (c : CodeT) (v : CodeV) (A5 : Option Addr) (n5 c5 : Nat) (x : InsT) (w : World) (hf : ∀ w', Mod Nil w w' → CodeF w' c v) (hT : ∀ l ∈ c.lits, l.text.length ≤ 2000000) (h6 : x.op ≠ 6) (h7 : x.op ≠ 7) (h10 : x.op ≠ 10) (h11 : x.op ≠ 11) :
    Calls Tryd.prog 33 #[.agg (kArr c v A5 n5 c5), .agg #[.int .i64 x.op, .int .i64 x.a, .int .i64 x.b]] w fun e w' => e = .returned (.bool (mayL c n5 x)) ∧ Mod Nil w w' := by
  obtain ⟨o, a, b⟩ := x
  simp only at h6 h7 h10 h11 ⊢
  have hbk : Blk (w.alloc (.cells (kArr c v A5 n5 c5) 41)) w.heap.size 41 (kArr c v A5 n5 c5) := Blk.new _ _ _
  have hm1 := (Mod.refl Nil w).alloc (.cells (kArr c v A5 n5 c5) 41)
  have hs1 : (w.alloc (.cells (kArr c v A5 n5 c5) 41)).heap.size = w.heap.size + 1 := by simp
  have hbi : Blk ((w.alloc (.cells (kArr c v A5 n5 c5) 41)).alloc (.cells #[.int .i64 o, .int .i64 a, .int .i64 b] 33)) (w.heap.size + 1) 33 #[.int .i64 o, .int .i64 a, .int .i64 b] := by rw [← hs1]; exact Blk.new _ _ _
  have hm2 := hm1.alloc (.cells #[.int .i64 o, .int .i64 a, .int .i64 b] 33)
  have hbk2 := hbk.keep ((Mod.refl Nil (w.alloc (.cells (kArr c v A5 n5 c5) 41))).alloc (.cells #[.int .i64 o, .int .i64 a, .int .i64 b] 33)) id
  have HB := Lib.hid hbk2
  have HI := Lib.hid hbi
  have HM := Lib.hid hm2
  have HL := Lib.hid (kLit_any c v A5 n5 c5 a _ (fun w' h => hf w' (hm2.trans h)))
  obtain ⟨c0, c1, c2, c3, c4, c5', c6⟩ := k_boxed hbk2
  have i0 := hbi.cell 0
  have i1 := hbi.cell 1
  have i2 := hbi.cell 2
  clear hbk hm1 hs1 hbi hm2 hbk2 hf
  unfold kArr at *
  simp only [List.getElem?_toArray, List.getElem?_cons_zero, List.getElem?_cons_succ] at i0 i1 i2
  go_enter Tryd.func33, Tryd.ntmps33
  go_wp2_with fail
  refine HL.out.mono ?_
  rintro e w3 ⟨rfl, hm⟩
  have hb3 := HB.out.keep hm id
  have hi3 := HI.out.keep hm id
  have hm3 := HM.out.trans hm
  clear HB HI HM HL c0 c1 c2 c3 c4 c5' c6 i0 i1 i2 hm
  have hz : Blk (w3.alloc (.cells litZ 45)) w3.heap.size 45 litZ := Blk.new _ _ _
  obtain ⟨hk0, hk1, hk2, hf0, hf1, hf2⟩ := lit_facts hz
  obtain ⟨y, hy⟩ : ∃ y, (litGet c a).getD lit0 = y := ⟨_, rfl⟩
  obtain ⟨t, ht⟩ : ∃ t, (litGet c a).isSome = t := ⟨_, rfl⟩
  have HLG := Lib.hid (show litGet c a = if t then some y else none by
    rcases h : litGet c a with _ | z
    · rw [h] at ht
      subst ht
      rfl
    · rw [h] at ht hy
      subst ht hy
      rfl)
  have HTX := Lib.hid (show t = true → y.text.length ≤ 2000000 by
    intro h
    have := HLG.out
    rw [if_pos h] at this
    unfold litGet at this
    split at this
    · exact hT _ (List.mem_of_getElem? this)
    · cases this)
  rw [hy, ht]
  clear hT
  have hm4 := (Mod.refl Nil w3).alloc (.cells (litA y) 45)
  have hb4 : Blk (w3.alloc (.cells (litA y) 45)) w3.heap.size 45 (litA y) := Blk.new _ _ _
  obtain ⟨c0, c1, c2, c3, c4, c5', c6⟩ := k_boxed (hb3.keep hm4 id)
  have i0 := (hi3.keep hm4 id).cell 0
  have i1 := (hi3.keep hm4 id).cell 1
  have i2 := (hi3.keep hm4 id).cell 2
  have y0 := hb4.cell 0
  have y1 := hb4.cell 1
  have y2 := hb4.cell 2
  have HM := Lib.hid (hm3.trans hm4)
  clear hb3 hi3 hm3 hm4 hb4 hz hy ht
  unfold litA litZ at *
  simp only [List.getElem?_toArray, List.getElem?_cons_zero, List.getElem?_cons_succ] at i0 i1 i2 y0 y1 y2
  rcases may_cases o with rfl | rfl | rfl | rfl | rfl | rfl | rfl | rfl | rfl | rfl | rfl | ⟨n0, n1, n6, n7, n8, n9, n10, n11, n12, n13, n16⟩
  rotate_right
  · have q0 : (o == 0) = false := by simp [n0]
    have q1 : (o == 1) = false := by simp [n1]
    have q6 : (o == 6) = false := by simp [n6]
    have q7 : (o == 7) = false := by simp [n7]
    have q8 : (o == 8) = false := by simp [n8]
    have q9 : (o == 9) = false := by simp [n9]
    have q10 : (o == 10) = false := by simp [n10]
    have q11 : (o == 11) = false := by simp [n11]
    have q12 : (o == 12) = false := by simp [n12]
    have q13 : (o == 13) = false := by simp [n13]
    have q16 : (o == 16) = false := by simp [n16]
    have HR := Lib.hid (show mayL c n5 ⟨o, a, b⟩ = (decide (2 ≤ o) && decide (o ≤ 19)) by simp only [mayL, n0, n1, n8, n9, n10, n11, n12, n13, n16, or_self, if_false])
    clear n0 n1 n6 n7 n8 n9 n10 n11 n12 n13 n16 h6 h7 h10 h11
    rcases h2 : decide (2 ≤ o) with _ | _
    · go_wp2_with fail
      go_ret
      exact ⟨ret_bool (by rw [HR.out, h2]; rfl), HM.out⟩
    · go_wp2_with fail
      go_ret
      exact ⟨ret_bool (by rw [HR.out, h2]; rfl), HM.out⟩
  · rcases t with _ | _
    · have HR := Lib.hid (show mayL c n5 ⟨0, a, b⟩ = false by simp [mayL, HLG.out])
      go_wp2_with fail
      go_ret
      exact ⟨ret_bool HR.out.symm, HM.out⟩
    · have hq : (y.kind != 4) = !(y.kind == 4) := rfl
      rcases hk : (y.kind == 4) with _ | _
      · have HR := Lib.hid (show mayL c n5 ⟨0, a, b⟩ = true by simp [mayL, HLG.out, hk])
        rw [hk] at hq
        go_wp2_with fail
        go_ret
        exact ⟨ret_bool HR.out.symm, HM.out⟩
      · have HR := Lib.hid (show mayL c n5 ⟨0, a, b⟩ = false by simp [mayL, HLG.out, hk])
        rw [hk] at hq
        go_wp2_with fail
        go_ret
        exact ⟨ret_bool HR.out.symm, HM.out⟩
  · rcases t with _ | _
    · have HR := Lib.hid (show mayL c n5 ⟨1, a, b⟩ = false by simp [mayL, HLG.out])
      go_wp2_with fail
      go_ret
      exact ⟨ret_bool HR.out.symm, HM.out⟩
    · rcases hk : (y.kind == 4) with _ | _
      · have HR := Lib.hid (show mayL c n5 ⟨1, a, b⟩ = false by simp [mayL, HLG.out, hk])
        go_wp2_with fail
        go_ret
        exact ⟨ret_bool HR.out.symm, HM.out⟩
      · have HR := Lib.hid (show mayL c n5 ⟨1, a, b⟩ = nmClass y.text by simp [mayL, HLG.out, hk])
        have HC := Lib.hid (fun w => nmClass_any y.text (by have := HTX.out rfl; omega) w)
        go_wp2_with fail
        refine (HC.out _).mono ?_
        rintro e w5 ⟨rfl, hm5⟩
        have HM5 := Lib.hid (HM.out.trans hm5)
        clear hm5
        go_wp2_with fail
        go_ret
        exact ⟨ret_bool HR.out.symm, HM5.out⟩
  · exact absurd rfl h6
  · exact absurd rfl h7
  · rcases t with _ | _
    · have HR := Lib.hid (show mayL c n5 ⟨8, a, b⟩ = false by simp [mayL, HLG.out])
      go_wp2_with fail
      go_ret
      exact ⟨ret_bool HR.out.symm, HM.out⟩
    · rcases hk : (y.kind == 4) with _ | _
      · have HR := Lib.hid (show mayL c n5 ⟨8, a, b⟩ = false by simp [mayL, HLG.out, hk])
        go_wp2_with fail
        go_ret
        exact ⟨ret_bool HR.out.symm, HM.out⟩
      · have HR := Lib.hid (show mayL c n5 ⟨8, a, b⟩ = nmVar y.text by simp [mayL, HLG.out, hk])
        have HC := Lib.hid (fun w => nmVar_any y.text (by have := HTX.out rfl; omega) w)
        go_wp2_with fail
        refine (HC.out _).mono ?_
        rintro e w5 ⟨rfl, hm5⟩
        have HM5 := Lib.hid (HM.out.trans hm5)
        clear hm5
        go_wp2_with fail
        go_ret
        exact ⟨ret_bool HR.out.symm, HM5.out⟩
  · rcases t with _ | _
    · have HR := Lib.hid (show mayL c n5 ⟨9, a, b⟩ = false by simp [mayL, HLG.out])
      go_wp2_with fail
      go_ret
      exact ⟨ret_bool HR.out.symm, HM.out⟩
    · rcases hk : (y.kind == 4) with _ | _
      · have HR := Lib.hid (show mayL c n5 ⟨9, a, b⟩ = false by simp [mayL, HLG.out, hk])
        go_wp2_with fail
        go_ret
        exact ⟨ret_bool HR.out.symm, HM.out⟩
      · have HR := Lib.hid (show mayL c n5 ⟨9, a, b⟩ = nmVar y.text by simp [mayL, HLG.out, hk])
        have HC := Lib.hid (fun w => nmVar_any y.text (by have := HTX.out rfl; omega) w)
        go_wp2_with fail
        refine (HC.out _).mono ?_
        rintro e w5 ⟨rfl, hm5⟩
        have HM5 := Lib.hid (HM.out.trans hm5)
        clear hm5
        go_wp2_with fail
        go_ret
        exact ⟨ret_bool HR.out.symm, HM5.out⟩
  · exact absurd rfl h10
  · exact absurd rfl h11
  · rcases h0 : decide (0 ≤ a) with _ | _
    · have HR := Lib.hid (show mayL c n5 ⟨12, a, b⟩ = false by unfold mayL; simp only [h0]; rfl)
      go_wp2_with fail
      go_ret
      exact ⟨ret_bool HR.out.symm, HM.out⟩
    · rcases h1 : decide (a < (c.blocks.length : Int)) with _ | _
      all_goals
        have HR := Lib.hid (show mayL c n5 ⟨12, a, b⟩ = (decide (0 ≤ a) && decide (a < (c.blocks.length : Int))) from rfl)
        rw [h0, h1] at HR
        go_wp2_with fail
        go_ret
        exact ⟨ret_bool HR.out.symm, HM.out⟩
  · rcases h0 : decide (0 ≤ a) with _ | _
    · have HR := Lib.hid (show mayL c n5 ⟨13, a, b⟩ = false by unfold mayL; simp only [h0]; rfl)
      go_wp2_with fail
      go_ret
      exact ⟨ret_bool HR.out.symm, HM.out⟩
    · rcases h1 : decide (a ≤ 1000) with _ | _
      all_goals
        have HR := Lib.hid (show mayL c n5 ⟨13, a, b⟩ = (decide (0 ≤ a) && decide (a ≤ 1000)) from rfl)
        rw [h0, h1] at HR
        go_wp2_with fail
        go_ret
        exact ⟨ret_bool HR.out.symm, HM.out⟩
  · rcases h0 : decide (0 < n5) with _ | _
    all_goals
      have hq : decide ((0 : Int) < (n5 : Int)) = decide (0 < n5) := by simp
      rw [h0] at hq
      have HR := Lib.hid (show mayL c n5 ⟨16, a, b⟩ = decide (0 < n5) from rfl)
      rw [h0] at HR
      go_wp2_with fail
      go_ret
      exact ⟨ret_bool HR.out.symm, HM.out⟩
end Go.Proofs.YtefloadjolpgbaaDoor

namespace Go.Proofs.YtefloadjolpgbaaDoor
open Go.RowKit

/-- Instructions that kMay_any covers. -/
def plainOp (o : Int) : Prop := o ≠ 6 ∧ o ≠ 7 ∧ o ≠ 10 ∧ o ≠ 11
def kFn (g : Nat) : Value := .func (.func 32) #[] #[.pointer (some ⟨g, 0, none⟩)]

set_option maxHeartbeats 1600000 in
set_option maxRecDepth 100000 in
theorem right1_any (c : CodeT) (v : CodeV) (A5 : Option Addr) (n5 c5 g : Nat) (x : InsT) (w : World) (hf : ∀ w', Mod Nil w w' → CodeF w' c v) (hT : ∀ l ∈ c.lits, l.text.length ≤ 2000000) (hx : plainOp x.op)
    (hb : Blk w g 41 (kArr c v A5 n5 c5)) :
    Calls Tryd.prog 32 #[.agg #[.int .i64 x.op, .int .i64 x.a, .int .i64 x.b], .pointer (some ⟨g, 0, none⟩)] w fun e w' => e = .returned (.bool (!mayL c n5 x)) ∧ Mod Nil w w' := by
  have hm1 := (Mod.refl Nil w).alloc (.cells #[.int .i64 x.op, .int .i64 x.a, .int .i64 x.b] 33)
  have hb1 := hb.keep hm1 id
  obtain ⟨c0, c1, c2, c3, c4, c5', c6⟩ := k_boxed hb1
  obtain ⟨i0, i1, i2⟩ := ins_boxed w x.op x.a x.b
  have HK := Lib.hid (kMay_any c v A5 n5 c5 x _ (fun w' h => hf w' (hm1.trans h)) hT hx.1 hx.2.1 hx.2.2.1 hx.2.2.2)
  have HM := Lib.hid hm1
  clear hb1 hm1 hf hT hx hb
  unfold kArr at HK
  go_enter Tryd.func32, Tryd.ntmps32
  go_wp2_with fail
  refine HK.out.mono ?_
  rintro e w2 ⟨rfl, hm⟩
  have HM2 := Lib.hid (HM.out.trans hm)
  clear hm
  go_wp2_with fail
  go_ret
  exact ⟨rfl, HM2.out⟩

set_option maxHeartbeats 1600000 in
set_option maxRecDepth 100000 in
theorem insIndexFunc_any (c : CodeT) (v : CodeV) (A5 : Option Addr) (n5 c5 g : Nat) (A : Option Addr) (n cap : Nat) (ps : List InsT) (w : World) (hf : ∀ w', Mod Nil w w' → CodeF w' c v) (hT : ∀ l ∈ c.lits, l.text.length ≤ 2000000) (hx : ∀ x ∈ ps, plainOp x.op)
    (hb : Blk w g 41 (kArr c v A5 n5 c5)) (hn : ps.length = n) (hbig : n ≤ 20000) (hr : Rd All w A (ps.flatMap insC)) :
    Calls Tryd.prog 50 #[.slice A n cap, kFn g] w fun r w' => ∃ i : Int, r = .returned (.int .i64 i) ∧ (0 ≤ i ↔ ps.any (fun x => !mayL c n5 x) = true) ∧ Mod Nil w w' := by
  have HR := Lib.hid hr
  have HF := Lib.hid hf
  have HT := Lib.hid hT
  have HX := Lib.hid hx
  have HB := Lib.hid hb
  clear hr hf hT hx hb
  unfold kFn
  go_enter Tryd.func50, Tryd.ntmps50
  go_wp2_with fail
  go_loopw [8] (fun i wr => ∃ (k : Nat), k ≤ n ∧ i = .int .i64 k ∧ (∀ j p, j < k → ps[j]? = some p → mayL c n5 p = true) ∧ Mod Nil w wr) (fun v _ => n - (intOf v).toNat)
  case atStart => exact ⟨0, Nat.zero_le _, rfl, fun j i hj => absurd hj (by omega), Mod.refl _ _⟩
  case round =>
    obtain ⟨k, hk, rfl, hno, hm⟩ := hrel
    have HNO := Lib.hid hno
    have HM := Lib.hid hm
    clear hno hm
    by_cases hlt : k < n
    · obtain ⟨p, hp⟩ : ∃ p, ps[k]? = some p := ⟨_, List.getElem?_eq_getElem (by omega)⟩
      obtain ⟨ad, rfl, hadl, a0, a1, a2⟩ := eqIns_at (HR.out.keep0 HM.out) hp
      have HC := Lib.hid (right1_any c v A5 n5 c5 g p _ (fun w' h => HF.out w' (HM.out.trans h)) HT.out (HX.out p (List.mem_of_getElem? hp)) (HB.out.keep HM.out id))
      have hbad : mayL c n5 p = false → ps.any (fun x => !mayL c n5 x) = true := fun h => by
        rw [List.any_eq_true]
        exact ⟨p, List.mem_of_getElem? hp, by simp [h]⟩
      have hgood : mayL c n5 p = true → ∀ j q, j < k + 1 → ps[j]? = some q → mayL c n5 q = true := fun h j q hj hq => by
        rcases Nat.lt_or_ge j k with h1 | h1
        · exact HNO.out j q h1 hq
        · have : j = k := by omega
          subst this
          rw [hp] at hq
          cases hq
          exact h
      have HBD := Lib.hid hbad
      have HG := Lib.hid hgood
      clear hbad hgood hp hn
      go_wp2_with fail
      refine HC.out.mono ?_
      rintro e w2 ⟨rfl, hm⟩
      have HM2 := Lib.hid (HM.out.trans hm)
      clear hm
      rcases hb : mayL c n5 p with _ | _
      · have HX := Lib.hid (HBD.out hb)
        clear hb
        go_wp2_with fail
        go_ret
        exact ⟨_, rfl, ⟨fun _ => HX.out, fun _ => by omega⟩, HM2.out⟩
      · have HX := Lib.hid (HG.out hb)
        clear hb
        go_wp2_with fail
        refine ⟨⟨k + 1, hlt, rfl, HX.out, HM2.out⟩, ?_⟩
        simp [intOf]
        omega
    · have HX := Lib.hid (show ps.any (fun x => !mayL c n5 x) = false by
        rw [List.any_eq_false]
        intro p hp
        obtain ⟨j, hj⟩ := List.getElem?_of_mem hp
        have := (List.getElem?_eq_some_iff.1 hj).1
        simp [HNO.out j p (by omega) hj])
      go_wp2_with fail
      go_ret
      exact ⟨_, rfl, by rw [HX.out]; simp, HM.out⟩

set_option maxHeartbeats 400000 in
set_option maxRecDepth 100000 in
theorem insContainsFunc_any (c : CodeT) (v : CodeV) (A5 : Option Addr) (n5 c5 g : Nat) (A : Option Addr) (n cap : Nat) (ps : List InsT) (w : World) (hf : ∀ w', Mod Nil w w' → CodeF w' c v) (hT : ∀ l ∈ c.lits, l.text.length ≤ 2000000) (hx : ∀ x ∈ ps, plainOp x.op)
    (hb : Blk w g 41 (kArr c v A5 n5 c5)) (hn : ps.length = n) (hbig : n ≤ 20000) (hr : Rd All w A (ps.flatMap insC)) :
    Calls Tryd.prog 31 #[.slice A n cap, kFn g] w fun r w' => r = .returned (.bool (ps.any fun x => !mayL c n5 x)) ∧ Mod Nil w w' := by
  have HI := Lib.hid (insIndexFunc_any c v A5 n5 c5 g A n cap ps w hf hT hx hb hn hbig hr)
  unfold kFn at HI ⊢
  clear hr hf hT hx hb
  go_enter Tryd.func31, Tryd.ntmps31
  go_wp2_with fail
  refine HI.out.mono ?_
  rintro e w2 ⟨i, rfl, hi, hm⟩
  have HM := Lib.hid hm
  have HIF := Lib.hid hi
  clear hm hi
  go_wp2_with fail
  go_ret
  refine ⟨ret_bool ?_, HM.out⟩
  have := HIF.out
  rw [Bool.eq_iff_iff]
  simpa using this
end Go.Proofs.YtefloadjolpgbaaDoor

namespace Go.Proofs.YtefloadjolpgbaaDoor
open Go.RowKit

set_option maxHeartbeats 400000 in
set_option maxRecDepth 100000 in
theorem cloneNil_any (w : World) : Calls Tryd.prog 34 #[.slice none 0 0] w fun e w' => e = .returned (.slice none 0 0) ∧ Mod Nil w w' := by
  have hq : ∀ w : World, (binOp .eql 24 (.slice none 0 0) (.slice none 0 0)).run Tryd.prog w = .ok (.bool true) w := fun w => by
    have hu := Tryd.underlying24
    simp [binOp, hu]
    try rfl
  go_enter Tryd.func34, Tryd.ntmps34
  go_wp2_with fail
  go_ret
  exact ⟨rfl, Mod.refl _ _⟩

def k2Fn (g : Nat) : Value := .func (.func 36) #[] #[.pointer (some ⟨g, 0, none⟩)]

set_option maxHeartbeats 400000 in
set_option maxRecDepth 100000 in
theorem codeIndexNil_any (A : Option Addr) (cap g : Nat) (w : World) : Calls Tryd.prog 55 #[.slice A 0 cap, k2Fn g] w fun e w' => e = .returned (.int .i64 (-1)) ∧ Mod Nil w w' := by
  unfold k2Fn
  go_enter Tryd.func55, Tryd.ntmps55
  go_wp2_with fail
  go_loopw [8] (fun i wr => i = .int .i64 0 ∧ Mod Nil w wr) (fun v _ => 0)
  case atStart => exact ⟨rfl, Mod.refl _ _⟩
  case round =>
    obtain ⟨rfl, hm⟩ := hrel
    have HM := Lib.hid hm
    clear hm
    go_wp2_with fail
    go_ret
    exact ⟨rfl, HM.out⟩

set_option maxHeartbeats 400000 in
set_option maxRecDepth 100000 in
theorem codeContainsNil_any (A : Option Addr) (cap g : Nat) (w : World) : Calls Tryd.prog 35 #[.slice A 0 cap, k2Fn g] w fun e w' => e = .returned (.bool false) ∧ Mod Nil w w' := by
  have HI := Lib.hid (codeIndexNil_any A cap g)
  unfold k2Fn at HI ⊢
  go_enter Tryd.func35, Tryd.ntmps35
  go_wp2_with fail
  refine (HI.out _).mono ?_
  rintro e w2 ⟨rfl, hm⟩
  have HM := Lib.hid hm
  clear hm
  go_wp2_with fail
  go_ret
  exact ⟨rfl, HM.out⟩
end Go.Proofs.YtefloadjolpgbaaDoor

namespace Go.Proofs.YtefloadjolpgbaaDoor
open Go.RowKit

theorem Mod.setRow {F : Nat → Prop} {a w : World} (h : Mod F a w) {g : Nat} (hg : F g) (cs : Array Value) : Mod F a (w.setRow g cs) :=
  ⟨h.os, h.tape, h.output, by simpa [World.setRow] using h.size, fun i hi hn => (setRow_other w g i cs (fun e => hn (e ▸ hg))).trans (h.block i hi hn)⟩

section
variable {P : Program}
theorem op_copy1 {o : Oper} {a : Act} {w : World} {K : Act → World → Prop} {Q : Exit → Act → World → Prop} (d s : Operand) (dT sT : TypeId)
    (ho : o.op = .call { callee := .builtin .copy, args := #[d, s], argTypes := #[dT, sT] }) (elem : TypeId) (hu : P.underlying dT = some (.slice elem)) (hsz : (P.info? elem).map (·.size) = some 1)
    (ad : Addr) (dLen dCap sLen sCap : Nat) (g off : Nat) (hd : a.eval d = .slice (some ⟨g, off, none⟩) dLen dCap) (hs : a.eval s = .slice (some ad) sLen sCap)
    (cur : List Value) (t : TypeId) (hg : w.heap[g]? = some (.cells cur.toArray t (0, 0))) (cs : List Value) (m : Nat) (hm : cs.length = m) (hn : m = Nat.min sLen dLen)
    (hsrc : ∀ j v, cs[j]? = some v → w.cell? (ad.add j) = some v)
    (hfit : off + cs.length ≤ cur.length) (h1 : ∀ v ∈ cs, v.oneCell' = true)
    (h : K (a.put o.dst (.int .i64 m)) (w.setRow g (splice cur off cs).toArray)) : o.wp P a w K Q := by
  subst hm
  have hrun := run_copy_row (P := P) w dT sT o.type elem g off dLen dCap ad sLen sCap cur.toArray t cs hu hsz hg hn hsrc (by simpa using hfit) h1
  unfold Oper.wp
  simp [execOp, ho, resolve, invoke, builtin, hd, hs, hrun, Result.andThen]
  exact h
end

noncomputable def repBody : Code := (Tryd.f22.body).getD .skip

structure PhCp (W W' : World) (v : Value) (k : Nat) (h : Hist) (w : World) : Prop where
  s0 : k = 0 → w = W
  s1 : k = 1 → w = W' ∧ h 0 = v

/-- The doubling loop: so far it is full. -/
def RepI (w0 : World) (g n : Nat) (u : Int) (ac : Act) (w : World) : Prop :=
  ∃ (k : Nat) (cur : Array Value), Sl 48 [(7, .slice (some ⟨g, 0, none⟩) n n), (8, .int .i64 (k : Nat))] ac ∧ 1 ≤ k ∧ k ≤ n ∧ cur.size = n ∧ (∀ j, j < k → cur[j]? = some (.int .i64 u)) ∧ Blk w g 3 cur ∧ Mod Nil w0 w

theorem Mod.row {F : Nat → Prop} {a w : World} (h : Mod F a w) {g : Nat} (hg : F g ∨ a.heap.size ≤ g) (cs : Array Value) : Mod F a (w.setRow g cs) :=
  ⟨h.os, h.tape, h.output, by simpa [World.setRow] using h.size, fun i hi hn => (setRow_other w g i cs (fun e => by
    subst e
    rcases hg with h | h
    · exact hn h
    · omega)).trans (h.block i hi hn)⟩

theorem splice_get {cur cs : List Value} {off j : Nat} (hoff : off + cs.length ≤ cur.length) : (splice cur off cs)[j]? = if off ≤ j ∧ j < off + cs.length then cs[j - off]? else cur[j]? := by
  unfold splice
  have hl : (cur.take off).length = off := by rw [List.length_take]; omega
  rcases Nat.lt_or_ge j off with h | h
  · rw [List.getElem?_append_left (by omega), if_neg (by omega), List.getElem?_take, if_pos h]
  · rw [List.getElem?_append_right (by omega), hl]
    rcases Nat.lt_or_ge j (off + cs.length) with h2 | h2
    · rw [if_pos ⟨h, h2⟩, List.getElem?_append_left (by omega)]
    · rw [if_neg (by omega), List.getElem?_append_right (by omega), List.getElem?_drop]
      congr 1
      omega
theorem splice_len {cur cs : List Value} {off : Nat} (hoff : off + cs.length ≤ cur.length) : (splice cur off cs).length = cur.length := by
  unfold splice
  simp only [List.length_append, List.length_take, List.length_drop]
  omega

set_option maxHeartbeats 3200000 in
set_option maxRecDepth 100000 in
theorem repeat_any (a : Addr) (cap n : Nat) (u : Int) (w : World) (hn : n ≤ 20000) (h1n : 1 ≤ n) (hal : a.block < w.heap.size) (ha : w.cell? a = some (.int .i64 u)) : Calls Tryd.prog 22 #[.slice (some a) 1 cap, .int .i64 n] w fun e w' =>
    ∃ g, e = .returned (.slice (some ⟨g, 0, none⟩) n n) ∧ w.heap.size ≤ g ∧ Blk w' g 3 (Array.replicate n (.int .i64 u)) ∧ Mod Nil w w' := by
  have h64 : (n : Int) % 18446744073709551616 = n := by omega
  have hq0 : decide ((n : Int) < 0) = false := by simp
  have hdg : decide (9223372036854775807 < (n : Int)) = false := by simp; omega
  obtain ⟨i0, hi, hz0, hz1, hz2⟩ := info_parts (show (Tryd.prog.info? 3).map (fun i => (i.zero, i.size, i.bytes)) = some (some (.int .i64 0), 1, 8) by kernel_rfl)
  have HMK := Lib.hid (show ∀ (w : World), (Instr.makeSlice 30 (.int .i64 (n : Int)) (.int .i64 (n : Int))).run Tryd.prog w = .ok (.slice (some ⟨w.heap.size, 0, none⟩) n n) (w.alloc (.cells (Array.replicate n (Value.int .i64 0)) 3)) by
    intro w
    have := run_make (P := Tryd.prog) w 30 3 i0 (.int .i64 0) Tryd.underlying30 hi hz0 .i64 .i64 (n : Int) (n : Int) (by omega) (by omega) (by rw [hz2]; omega) (by omega)
    rw [this, hz1, Int.toNat_natCast]
    have hmc : madeCells (Value.int .i64 0).cells (n * 1) = Array.replicate n (Value.int .i64 0) := by
      apply Array.ext
      · simp [madeCells, Value.cells]
      · intro i h1 h2
        simp [madeCells, Value.cells, Nat.mod_one]
    rw [hmc])
  clear hi hz0 hz1 hz2
  have HMUL := Lib.hid (fun w => Tryd.bits_Mul 1 n (by omega) (by omega) w)
  refine sl_enter (n := 48) (fn := Tryd.f22) (c := repBody) Tryd.func22 rfl rfl (by simp) fun ac HF => ?_
  conv => arg 2; whnf
  refine wp_seq (wp_region_lit ?_)
  refine sl_const HF rfl rfl (.inr rfl) (by decide) ?_; clear HF; intro _ HF
  refine sl_nil (wp_seq (wp_seq (wp_region_lit ?_)))
  refine sl_move HF rfl rfl (.inl rfl) (by decide) rfl ?_; clear HF; intro _ HF
  refine sl_op HF rfl rfl (by decide) ?_; intro K hK; have e9 := HF.see 9 rfl; go_wp2_with fail; clear e9 HF; intro _ HF
  refine sl_nil (wp_cond_false (HF.at 10 rfl) (wp_skip (sl_then (wp_seq (wp_region_lit ?_)))))
  refine sl_move HF rfl rfl (.inl rfl) (by decide) rfl ?_; clear HF; intro _ HF
  refine sl_op HF rfl rfl (by decide) ?_; intro K hK; have e13 := HF.see 13 rfl; go_wp2_with fail; clear e13 HF; intro _ HF
  refine sl_op HF rfl rfl (by decide) ?_; intro K hK; have e14 := HF.see 14 rfl; go_wp2_with fail; clear e14 HF; intro _ HF
  refine sl_move HF rfl rfl (.inl rfl) (by decide) rfl ?_; clear HF; intro _ HF
  refine sl_op HF rfl rfl (by decide) ?_; intro K hK; have e16 := HF.see 16 rfl; go_wp2_with fail; clear e16 HF; intro _ HF
  refine sl_op HF rfl rfl (by decide) ?_; intro K hK; have e15 := HF.see 15 rfl; have e17 := HF.see 17 rfl; go_wp2_with fail
  refine (HMUL.out _).mono ?_
  rintro e w2 ⟨rfl, rfl⟩
  rw [show 1 * n / 18446744073709551616 = 0 by omega, show 1 * n % 18446744073709551616 = n by omega]
  go_wp2_with fail; clear e15 e17 HF; intro _ HF
  refine sl_move HF rfl rfl (.inl rfl) (by decide) rfl ?_; clear HF; intro _ HF
  refine sl_op HF rfl rfl (by decide) ?_; intro K hK; have e12 := HF.see 12 rfl; go_wp2_with fail; clear e12 HF; intro _ HF
  refine sl_op HF rfl rfl (by decide) ?_; intro K hK; have e12 := HF.see 12 rfl; go_wp2_with fail; clear e12 HF; intro _ HF
  refine sl_move HF rfl rfl (.inr rfl) (by decide) rfl ?_; clear HF; intro _ HF
  refine sl_move HF rfl rfl (.inr rfl) (by decide) rfl ?_; clear HF; intro _ HF
  refine sl_nil (wp_seq (wp_seq (wp_region_lit ?_)))
  have hdgn : decide (9223372036854775807 < n) = false := by simp; omega
  refine sl_move HF rfl rfl (.inl rfl) (by decide) rfl ?_; clear HF; intro _ HF
  refine sl_op HF rfl rfl (by decide) ?_; intro K hK; have e21 := HF.see 21 rfl; go_wp2_with fail; clear e21 HF; intro _ HF
  refine sl_move HF rfl rfl (.inl rfl) (by decide) rfl ?_; clear HF; intro _ HF
  refine sl_want HF rfl rfl rfl rfl (by decide) ?_; intro K hK; have e6 := HF.see 6 rfl; go_wp2_with fail; clear e6 HF; intro _ HF
  refine sl_want HF rfl rfl rfl rfl (by decide) ?_; intro K hK; have e24 := HF.see 24 rfl; go_wp2_with fail; clear e24 HF; intro _ HF
  refine sl_op HF rfl rfl (by decide) ?_; intro K hK; have e23 := HF.see 23 rfl; have e25 := HF.see 25 rfl; go_wp2_with fail; clear e23 e25 HF; intro _ HF
  refine sl_nil (wp_cond_false (HF.at 26 rfl) (wp_skip (sl_then (wp_seq (wp_region_lit ?_)))))
  have hmk := HMK.out w2
  refine sl_move HF rfl rfl (.inl rfl) (by decide) rfl ?_; clear HF; intro _ HF
  refine sl_op HF rfl rfl (by decide) ?_; intro K hK; have e28 := HF.see 28 rfl; go_wp2_with fail; clear e28 HF; intro _ HF
  refine sl_op HF rfl rfl (by decide) ?_; intro K hK; have e29 := HF.see 29 rfl; go_wp2_with fail; clear e29 HF; intro _ HF
  refine sl_move HF rfl rfl (.inr rfl) (by decide) rfl ?_; clear HF; intro _ HF
  have hbl : Blk (w2.alloc (.cells (Array.replicate n (Value.int .i64 0)) 3)) w2.heap.size 3 (Array.replicate n (Value.int .i64 0)) := Blk.new _ _ _
  have hm1 := (Mod.refl Nil w2).alloc (.cells (Array.replicate n (Value.int .i64 0)) 3)
  have ha1 := (hm1.cell hal id).trans ha
  generalize hW1 : w2.alloc (.cells (Array.replicate n (Value.int .i64 0)) 3) = w1 at hbl hm1 ha1 ⊢
  generalize hG : w2.heap.size = g at hbl HF
  have hg2 : g < w1.heap.size := by rw [← hW1, ← hG]; simp
  have HBL := Lib.hid hbl
  have HA1 := Lib.hid ha1
  have HM1 := Lib.hid hm1
  have HG := Lib.hid hG
  clear hbl ha1 hm1 hW1 hG hmk HMK HMUL hdg hdgn h64
  refine sl_nil (wp_seq (wp_region_lit ?_))
  refine sl_move HF rfl rfl (.inl rfl) (by decide) rfl ?_; clear HF; intro _ HF
  refine sl_move HF rfl rfl (.inl rfl) (by decide) rfl ?_; clear HF; intro _ HF
  refine sl_op HF rfl rfl (by decide) ?_; intro K hK; have e31 := HF.see 31 rfl; have e32 := HF.see 32 rfl
  refine op_copy1 (.tmp 31) (.tmp 32) 30 30 rfl 3 Tryd.underlying30 (by kernel_rfl) a n n 1 cap g 0 ((Act.eval_tmp _ _).trans e31) ((Act.eval_tmp _ _).trans e32) (Array.replicate n (Value.int .i64 0)).toList 3 (by rw [Array.toArray_toList]; exact HBL.out) [Value.int .i64 u] 1 rfl (Nat.min_eq_left h1n).symm (fun j v hj => ?_) (by simp; omega) (by simp [Value.oneCell']) ?_
  · rcases j with _ | j
    · cases hj
      rw [show a.add 0 = a by unfold Addr.add; split <;> simp_all]
      exact HA1.out
    · cases hj
  go_wp2_with fail; clear e31 e32 HF; intro _ HF
  refine sl_move HF rfl rfl (.inr rfl) (by decide) rfl ?_; clear HF; intro _ HF
  have hR : 0 + [Value.int .i64 u].length ≤ (Array.replicate n (Value.int .i64 0)).toList.length := by simp; omega
  have hbl1 : Blk (w1.setRow g (splice (Array.replicate n (Value.int .i64 0)).toList 0 [Value.int .i64 u]).toArray) g 3 (splice (Array.replicate n (Value.int .i64 0)).toList 0 [Value.int .i64 u]).toArray := setRow_heap _ _ _ _ _ _ HBL.out
  have hm2 := HM1.out.row (g := g) (.inr (by rw [HG.out]; exact Nat.le_refl _)) (splice (Array.replicate n (Value.int .i64 0)).toList 0 [Value.int .i64 u]).toArray
  have hs1 : (splice (Array.replicate n (Value.int .i64 0)).toList 0 [Value.int .i64 u]).toArray.size = n := by rw [List.size_toArray, splice_len hR]; simp
  have hs2 : (splice (Array.replicate n (Value.int .i64 0)).toList 0 [Value.int .i64 u]).toArray[0]? = some (.int .i64 u) := by
    rw [List.getElem?_toArray, splice_get hR]
    simp
  generalize (splice (Array.replicate n (Value.int .i64 0)).toList 0 [Value.int .i64 u]).toArray = R1 at hbl1 hm2 hs1 hs2 ⊢
  generalize w1.setRow g R1 = w3 at hbl1 hm2 ⊢
  clear HBL HA1 HM1 hR hg2
  refine sl_nil (wp_seq (wp_block (wp_loop (RepI w2 g n u) (fun ac _ => n - (intOf (ac.eval (.tmp 8))).toNat) ?_ ?_)))
  · exact ⟨1, R1, HF.keep [7, 8], Nat.le_refl _, h1n, hs1, fun j hj => by obtain rfl : j = 0 := by omega
                                                                          exact hs2, hbl1, hm2⟩
  · clear HF hbl1 hm2 hs1 hs2
    rintro ac2 w4 ⟨k, cur, HF, hk1, hkn, hcs, hcu, hbk, hm⟩
    have HMU := Lib.hid (show n - (intOf ((ac2.tmps[8]?).getD undef)).toNat = n - k by rw [HF.see 8 rfl]; simp [intOf])
    by_cases hlt : k < n
    · have hd1 : decide ((k : Int) < (n : Int)) = true := by simpa using hlt
      refine wp_seq (wp_seq (wp_region_lit ?_))
      refine sl_move HF rfl rfl (.inl rfl) (by decide) rfl ?_; clear HF; intro _ HF
      refine sl_move HF rfl rfl (.inl rfl) (by decide) rfl ?_; clear HF; intro _ HF
      refine sl_op HF rfl rfl (by decide) ?_; intro K hK; have e35 := HF.see 35 rfl; go_wp2_with fail; clear e35 HF; intro _ HF
      refine sl_op HF rfl rfl (by decide) ?_; intro K hK; have e34 := HF.see 34 rfl; have e36 := HF.see 36 rfl; go_wp2_with fail; clear e34 e36 HF; intro _ HF
      refine sl_nil (wp_cond_true (HF.at 37 rfl) (wp_skip (sl_then (wp_block ?_))))
      obtain ⟨m, hmd⟩ : ∃ m, m = min k (n - k) := ⟨_, rfl⟩
      have hm1 : 1 ≤ m := by omega
      have hkm : k + m ≤ n := by omega
      have hkn' : ¬ (n = k) := by omega
      have h64k : (k : Int) ≤ n := by omega
      have HD := Lib.hid (hm.drew)
      have HBK := Lib.hid (show Blk w4.drew g 3 cur from hbk)
      have HCU := Lib.hid hcu
      have HCS := Lib.hid hcs
      have HMD := Lib.hid hmd
      clear hm hbk hcu hcs hmd hk1
      apply sl_flow5 (N := 1) [some 38, some 39, some 40, some 41, some 42, some 43, some 44, some 45, some 46, some 8] [.quiet 0 1, .quiet 0 0, .quiet 0 0, .quiet 0 0, .quiet 0 0, .quiet 0 0, .quiet 0 0, .writes 0, .quiet 1 1, .quiet 1 1] (PhCp w4.drew (w4.drew.setRow g (splice cur.toList k (List.replicate m (Value.int .i64 u))).toArray) (.int .i64 m)) [_, _, _, _, _, _, _, (fun h => h 0), _, _] HF
      case hm => kernel_rfl
      case hok => kernel_rfl
      case hfl => rfl
      case h0 => exact (fun _ => ⟨fun _ => rfl, fun h => absurd h (by decide)⟩)
      case hobs =>
        apply And.intro
        · apply ob_quiet
          case hg => rfl
          case hop =>
            intro ax wx h k hlo hhi hP hk K hK
            have e8 := hk.see 8 rfl rfl
            clear hk
            go_wp2_with fail
            all_goals first | exact hP | rfl
          case hst => exact fun h h' e => rfl
        apply And.intro
        · apply ob_quiet
          case hg => rfl
          case hop =>
            intro ax wx h k hlo hhi hP hk K hK
            have e7 := hk.see 7 rfl rfl
            clear hk
            go_wp2_with fail
            all_goals first | exact hP | rfl
          case hst => exact fun h h' e => rfl
        apply And.intro
        · apply ob_quiet
          case hg => rfl
          case hop =>
            intro ax wx h k hlo hhi hP hk K hK
            have e8 := hk.see 8 rfl rfl
            clear hk
            go_wp2_with fail
            all_goals first | exact hP | rfl
          case hst => exact fun h h' e => rfl
        apply And.intro
        · apply ob_quiet
          case hg => rfl
          case hop =>
            intro ax wx h k hlo hhi hP hk K hK
            have e39 := hk.see 39 rfl rfl
            have e40 := hk.see 40 rfl rfl
            clear hk
            go_wp2_with fail
            all_goals first | exact hP | rfl
          case hst => exact fun h h' e => rfl
        apply And.intro
        · apply ob_quiet
          case hg => rfl
          case hop =>
            intro ax wx h k hlo hhi hP hk K hK
            have e7 := hk.see 7 rfl rfl
            clear hk
            go_wp2_with fail
            all_goals first | exact hP | rfl
          case hst => exact fun h h' e => rfl
        apply And.intro
        · apply ob_quiet
          case hg => rfl
          case hop =>
            intro ax wx h k hlo hhi hP hk K hK
            have e8 := hk.see 8 rfl rfl
            clear hk
            go_wp2_with fail
            all_goals first | exact hP | rfl
          case hst => exact fun h h' e => rfl
        apply And.intro
        · apply ob_quiet
          case hg => rfl
          case hop =>
            intro ax wx h k hlo hhi hP hk K hK
            have e42 := hk.see 42 rfl rfl
            have e43 := hk.see 43 rfl rfl
            clear hk
            go_wp2_with fail
            all_goals first | exact hP | rfl
          case hst => exact fun h h' e => rfl
        refine And.intro (ob_writes rfl ?op) ?_
        case op =>
          intro ax wx h hP hk K hK
          have e41 := hk.see 41 rfl rfl
          have e44 := hk.see 44 rfl rfl
          clear hk
          obtain rfl := hP.s0 rfl
          refine op_copy1 (.tmp 41) (.tmp 44) 30 30 rfl 3 Tryd.underlying30 (by kernel_rfl) ⟨g, 0, none⟩ (n - k) (n - k) k n g k ((Act.eval_tmp _ _).trans e41) ((Act.eval_tmp _ _).trans e44) cur.toList 3 (by rw [Array.toArray_toList]; exact HBK.out) (List.replicate m (Value.int .i64 u)) m (by simp) HMD.out (fun j v hj => ?_) (by have := HCS.out; simp; omega) (fun v hv => by rw [List.eq_of_mem_replicate hv]; rfl) ?_
          · have hjm : j < m := by have := (List.getElem?_eq_some_iff.1 hj).1; simpa using this
            rw [List.getElem?_replicate, if_pos hjm] at hj
            cases hj
            rw [show (⟨g, 0, none⟩ : Addr).add j = ⟨g, j, none⟩ by unfold Addr.add; split <;> simp_all, HBK.out.cell j]
            exact HCU.out j (by have := HMD.out; omega)
          · exact hK _ _ ⟨fun h => absurd h (by decide), fun _ => ⟨rfl, upd_same _ _ _⟩⟩
        apply And.intro
        · apply ob_quiet
          case hg => rfl
          case hop =>
            intro ax wx h k hlo hhi hP hk K hK
            have e38 := hk.see 38 rfl rfl
            have e45 := hk.see 45 rfl rfl
            try dsimp only at e45
            clear hk
            rw [(hP.s1 (by omega)).2] at e45
            go_wp2_with fail
            all_goals first | exact hP | rfl
          case hst => exact fun h h' e => by first | rfl | simp only [e 0 (by decide)]
        apply And.intro
        · apply ob_quiet
          case hg => rfl
          case hop =>
            intro ax wx h k hlo hhi hP hk K hK
            have e46 := hk.see 46 rfl rfl
            try dsimp only at e46
            clear hk
            go_wp2_with fail
            all_goals first | exact hP | rfl
          case hst => exact fun h h' e => by first | rfl | simp only [e 0 (by decide)]
        exact trivial
      intro w5 a5 h hP HF
      obtain ⟨rfl, _⟩ := hP.s1 rfl
      have HF2 := HF.keep [7, 8]
      simp only [pick, look, laid5] at HF2
      have hcat : (k : Int) + (m : Int) = ((k + m : Nat) : Int) := by omega
      rw [hcat] at HF2
      have hfit : k + (List.replicate m (Value.int .i64 u)).length ≤ cur.toList.length := by have := HCS.out; simp; omega
      have hnew : RepI w2 g n u a5 (w4.drew.setRow g (splice cur.toList k (List.replicate m (Value.int .i64 u))).toArray) := by
        refine ⟨k + m, _, HF2, by omega, hkm, by rw [List.size_toArray, splice_len hfit, Array.length_toList]; exact HCS.out, fun j hj => ?_, setRow_heap _ _ _ _ _ _ HBK.out, HD.out.row (.inr (by rw [HG.out]; exact Nat.le_refl _)) _⟩
        rw [List.getElem?_toArray, splice_get hfit, List.length_replicate]
        by_cases hjk : k ≤ j
        · rw [if_pos ⟨hjk, by omega⟩, List.getElem?_replicate, if_pos (by omega)]
        · rw [if_neg (by omega), Array.getElem?_toList]
          exact HCU.out j (by omega)
      have e8 := HF2.see 8 rfl
      show _ ∧ _
      refine ⟨hnew, ?_⟩
      simp only [Act.eval_tmp]
      rw [HMU.out, e8]
      simp only [intOf]
      omega
    · have hd1 : decide ((k : Int) < (n : Int)) = false := by simpa using hlt
      have hkn2 : k = n := by omega
      subst hkn2
      have HBK := Lib.hid hbk
      have HM := Lib.hid hm
      have HX := Lib.hid (show cur = Array.replicate k (.int .i64 u) by
        apply Array.ext
        · simp [hcs]
        · intro i h1 h2
          have := hcu i (by omega)
          rw [Array.getElem?_eq_getElem h1] at this
          simpa using this)
      clear hbk hm hcu hcs
      refine wp_seq (wp_seq (wp_region_lit ?_))
      refine sl_move HF rfl rfl (.inl rfl) (by decide) rfl ?_; clear HF; intro _ HF
      refine sl_move HF rfl rfl (.inl rfl) (by decide) rfl ?_; clear HF; intro _ HF
      refine sl_op HF rfl rfl (by decide) ?_; intro K hK; have e35 := HF.see 35 rfl; go_wp2_with fail; clear e35 HF; intro _ HF
      refine sl_op HF rfl rfl (by decide) ?_; intro K hK; have e34 := HF.see 34 rfl; have e36 := HF.see 36 rfl; go_wp2_with fail; clear e34 e36 HF; intro _ HF
      refine sl_nil (wp_cond_false (HF.at 37 rfl) (wp_exit ?_))
      dsimp only [Exit.then]
      refine sl_exit (sl_then (wp_seq (wp_region_lit ?_)))
      refine sl_move HF rfl rfl (.inl rfl) (by decide) rfl ?_; clear HF; intro _ HF
      refine sl_move HF rfl rfl (.inr rfl) (by decide) rfl ?_; clear HF; intro _ HF
      refine sl_nil (wp_ret (sl_ret1 HF rfl rfl ⟨g, rfl, Nat.le_refl _, by rw [← HX.out]; exact HBK.out, HM.out⟩))
end Go.Proofs.YtefloadjolpgbaaDoor
