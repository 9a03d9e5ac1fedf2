/- Parts of the proof of CodeRunsUpto, joined: Base Str Row Dt Dti Cod RowC. -/
import Derived.Test.YtefloadjolpgbaaDoorProg
import Derived.Below
import Derived.WalkKit
import Derived.KernelRfl
import Derived.Lib.Hide
import Derived.Deep.Draws
import Derived.Deep.AppendLies
import Derived.Maps.AppendAt
import Derived.RegionTactic
import Derived.OwnWalk
import Derived.Lib.ConvBytes
import Derived.Laws.BytesArg
import Derived.WalkSpells
import Derived.Lib.SlBytesConst
import Derived.Test.YtefloadjolpgbaaDoorRows
import Derived.ProofKit
import Derived.OpenShut
import Derived.ShutString
import Derived.ChangeOld
import Derived.Deep.Slices
import Derived.ChangeSame
namespace Go.Proofs.YtefloadjolpgbaaDoor
open Go.RowKit

/-! ### what may have turned -/

/-- Only blocks of F, and new ones, have turned. -/
structure Mod (F : Nat → Prop) (w w' : World) : Prop where
  os : w'.os = w.os
  tape : w'.tape = w.tape
  output : w'.output = w.output
  size : w.heap.size ≤ w'.heap.size
  block : ∀ k, k < w.heap.size → ¬ F k → w'.heap[k]? = w.heap[k]?

/-- No block of old has turned. -/
def Nil : Nat → Prop := fun _ => False

theorem Mod.refl (F : Nat → Prop) (w : World) : Mod F w w := ⟨rfl, rfl, rfl, Nat.le_refl _, fun _ _ _ => rfl⟩
theorem Mod.trans' {F G H : Nat → Prop} {a b c : World} (h : Mod F a b) (k : Mod G b c) (hF : ∀ i, i < a.heap.size → F i → H i) (hG : ∀ i, i < a.heap.size → G i → H i) : Mod H a c :=
  ⟨k.os.trans h.os, k.tape.trans h.tape, k.output.trans h.output, Nat.le_trans h.size k.size, fun i hi hn =>
    (k.block i (Nat.lt_of_lt_of_le hi h.size) (fun hg => hn (hG i hi hg))).trans (h.block i hi (fun hf => hn (hF i hi hf)))⟩
theorem Mod.trans {F : Nat → Prop} {a b c : World} (h : Mod F a b) (k : Mod F b c) : Mod F a c := h.trans' k (fun _ _ h => h) (fun _ _ h => h)
theorem Mod.mono {F G : Nat → Prop} {a b : World} (h : Mod F a b) (hF : ∀ i, i < a.heap.size → F i → G i) : Mod G a b :=
  ⟨h.os, h.tape, h.output, h.size, fun i hi hn => h.block i hi (fun hf => hn (hF i hi hf))⟩
theorem Mod.any {F : Nat → Prop} {a b : World} (h : Mod Nil a b) : Mod F a b := h.mono fun _ _ h => h.elim
theorem Mod.of_below {F : Nat → Prop} {w w' : World} (h : Below w.heap.size w w') : Mod F w w' := ⟨h.os, h.tape, h.output, h.size, fun i hi _ => h.block i hi⟩
theorem Mod.below {w w' : World} (h : Mod Nil w w') : Below w.heap.size w w' := ⟨h.os, h.tape, h.output, h.size, fun i hi => h.block i hi id⟩
theorem Mod.below' {B : Nat} {w w' : World} (h : Mod (fun k => B ≤ k) w w') (hB : B ≤ w.heap.size) : Below B w w' :=
  ⟨h.os, h.tape, h.output, h.size, fun i hi => h.block i (by omega) (by omega)⟩
theorem Mod.of_grown {w w' : World} {row : Option Nat} (h : w.grownBy w' row) : Mod (fun k => row = some k) w w' :=
  ⟨h.os, h.tape, h.output, h.size, fun i hi hn => h.block i hi (fun e => hn e.symm)⟩
theorem Mod.alloc {F : Nat → Prop} {a w : World} (h : Mod F a w) (o : Obj) : Mod F a (w.alloc o) :=
  ⟨h.os, h.tape, h.output, Nat.le_trans h.size (by simp), fun i hi hn => (Below.heap_alloc w o i (Nat.lt_of_lt_of_le hi h.size)).trans (h.block i hi hn)⟩
theorem Mod.set {F : Nat → Prop} {a w : World} (h : Mod F a w) {p : Addr} (hp : F p.block ∨ a.heap.size ≤ p.block) (u : Value) : Mod F a (w.setCell p u) :=
  ⟨h.os, h.tape, h.output, by simpa [World.setCell] using h.size, fun i hi hn => (Below.heap_setCell w p u i (by
    rintro rfl
    rcases hp with hp | hp
    · exact hn hp
    · omega)).trans (h.block i hi hn)⟩
theorem Mod.drew {F : Nat → Prop} {a w : World} (h : Mod F a w) : Mod F a w.drew := ⟨h.os, h.tape, h.output, h.size, h.block⟩
theorem Mod.drewN {F : Nat → Prop} {a w : World} (h : Mod F a w) (n : Nat) : Mod F a (w.drewN n) := ⟨h.os, h.tape, h.output, h.size, h.block⟩
theorem Mod.cell {F : Nat → Prop} {w w' : World} (h : Mod F w w') {p : Addr} (hp : p.block < w.heap.size) (hn : ¬ F p.block) : w'.cell? p = w.cell? p := World.cell?_of_block (h.block _ hp hn)
theorem Mod.frozen {F : Nat → Prop} {w w' : World} (h : Mod F w w') {p : Addr} (hp : p.block < w.heap.size) (hn : ¬ F p.block) : w'.frozen? p = w.frozen? p := World.frozen?_of_block (h.block _ hp hn)

theorem block_of_add (a : Addr) (n : Nat) : (a.add n).block = a.block := by unfold Addr.add; split <;> rfl
theorem add_of_add (a : Addr) (i j : Nat) : (a.add i).add j = a.add (i + j) := by
  unfold Addr.add
  by_cases hi : i = 0 <;> by_cases hj : j = 0 <;> simp [hi, hj, Nat.add_assoc]
theorem add_zero (a : Addr) : a.add 0 = a := by simp [Addr.add]

/-! ### a slice that reads as a list of octets -/

/-- The value of an octet. -/
def bv (u : UInt8) : Value := .int .u8 (u.toNat : Int)

/-- The slice at A, of blocks in S, reads as the values xs, one a cell. -/
def Rd (S : Nat → Prop) (w : World) (A : Option Addr) (xs : List Value) : Prop :=
  0 < xs.length → ∃ ad, A = some ad ∧ S ad.block ∧ ad.block < w.heap.size ∧ ∀ j u, xs[j]? = some u → w.cell? (ad.add j) = some u

def All : Nat → Prop := fun _ => True

section
variable {S S' F : Nat → Prop} {w w' : World} {A : Option Addr} {xs : List Value}
theorem Rd.nil (S : Nat → Prop) (w : World) (A : Option Addr) : Rd S w A [] := fun h => absurd h (by simp)
theorem Rd.keep (h : Rd S w A xs) (hm : Mod F w w') (hS : ∀ b, S b → ¬ F b) : Rd S w' A xs := fun hn => by
  obtain ⟨ad, e, hs, hb, hc⟩ := h hn
  exact ⟨ad, e, hs, Nat.lt_of_lt_of_le hb hm.size, fun j u hu => (hm.cell (by rw [block_of_add]; exact hb) (by rw [block_of_add]; exact hS _ hs)).trans (hc j u hu)⟩
theorem Rd.keep0 (h : Rd S w A xs) (hm : Mod Nil w w') : Rd S w' A xs := h.keep hm fun _ _ => id
theorem Rd.mono (h : Rd S w A xs) (hS : ∀ b, b < w.heap.size → S b → S' b) : Rd S' w A xs := fun hn => by
  obtain ⟨ad, e, hs, hb, hc⟩ := h hn
  exact ⟨ad, e, hS _ hb hs, hb, hc⟩
theorem Rd.at_ (h : Rd S w A xs) {k : Nat} {u : Value} (hk : xs[k]? = some u) : ∃ ad, A = some ad ∧ S ad.block ∧ ad.block < w.heap.size ∧ w.cell? (ad.add k) = some u := by
  have hl : k < xs.length := (List.getElem?_eq_some_iff.1 hk).1
  obtain ⟨ad, e, hs, hb, hc⟩ := h (by omega)
  exact ⟨ad, e, hs, hb, hc k u hk⟩
/-- 's[k:]' -/
theorem Rd.cut (h : Rd S w A xs) {k cap : Nat} (hk : k ≤ xs.length) (hc : xs.length ≤ cap) : Rd S w (if cap = k then A else A.map (·.add k)) (xs.drop k) := fun hn => by
  rw [List.length_drop] at hn
  obtain ⟨ad, rfl, hs, hb, hcell⟩ := h (by omega)
  rw [if_neg (by omega)]
  refine ⟨ad.add k, rfl, by rw [block_of_add]; exact hs, by rw [block_of_add]; exact hb, fun j u hu => ?_⟩
  rw [add_of_add]
  exact hcell _ u (by rw [← hu, List.getElem?_drop])
/-- 's[:k]' -/
theorem Rd.take (h : Rd S w A xs) (k : Nat) : Rd S w A (xs.take k) := fun hn => by
  rw [List.length_take] at hn
  obtain ⟨ad, rfl, hs, hb, hcell⟩ := h (by omega)
  refine ⟨ad, rfl, hs, hb, fun j u hu => hcell j u ?_⟩
  rw [List.getElem?_take] at hu
  split at hu
  · exact hu
  · cases hu
theorem Rd.drop {ad : Addr} (h : Rd S w (some ad) xs) (k : Nat) : Rd S w (some (ad.add k)) (xs.drop k) := fun hn => by
  rw [List.length_drop] at hn
  obtain ⟨ad', h0, hs, hb, hcell⟩ := h (by omega)
  injection h0 with h0
  subst h0
  refine ⟨ad.add k, rfl, by rw [block_of_add]; exact hs, by rw [block_of_add]; exact hb, fun j u hu => ?_⟩
  rw [add_of_add]
  exact hcell _ u (by rw [← hu, List.getElem?_drop])
/-- One cell in a new block. -/
theorem Rd.cells1 (w : World) (u : Value) (t : TypeId) : Rd All (w.alloc (.cells #[u] t)) (some ⟨w.heap.size, 0, none⟩) [u] := fun _ =>
  ⟨_, rfl, trivial, by simp, cell_one_new w u t⟩
theorem Rd.of_own {base : Nat} {e : TypeId} {n c : Nat} (h : w.ownsRow base e 1 (.slice A n c) n xs) : Rd (fun b => base ≤ b) w A xs := fun hn => by
  have hl := h.1
  obtain ⟨g, cap, hv, hb, hlt⟩ := h.form (by omega)
  have hA : A = some ⟨g, 0, none⟩ := by injection hv
  subst hA
  exact ⟨_, rfl, hb, hlt, h.cells (g := g) rfl⟩
end

/-- A slice's value, whatever owns it. -/
theorem own_slice {w : World} {base : Nat} {e : TypeId} {size : Nat} {v : Value} {n : Nat} {xs : List Value} (h : w.ownsRow base e size v n xs) : ∃ A c, v = .slice A n c ∧ n ≤ c ∧ c ≤ maxLen := by
  rcases h.2 with ⟨rfl, rfl⟩ | ⟨g, cap, cur, rfl, _, _, h1, h2, _⟩
  · exact ⟨_, _, rfl, Nat.le_refl _, by simp [maxLen]⟩
  · exact ⟨_, _, rfl, h1, h2⟩

theorem own_keep {F : Nat → Prop} {w w' : World} {base : Nat} {e : TypeId} {size : Nat} {v : Value} {n : Nat} {xs : List Value} (h : w.ownsRow base e size v n xs) (hm : Mod F w w') (hn : ∀ k, v.ownBlock = some k → ¬ F k) : w'.ownsRow base e size v n xs := by
  refine ⟨h.1, ?_⟩
  rcases h.2 with h2 | ⟨g, cap, cur, rfl, hb, hg, rest⟩
  · exact .inl h2
  · exact .inr ⟨g, cap, cur, rfl, hb, (hm.block g (Array.getElem?_eq_some_iff.1 hg).1 (hn g rfl)).trans hg, rest⟩

theorem own_base {w : World} {base base' : Nat} {e : TypeId} {size : Nat} {v : Value} {n : Nat} {xs : List Value} (h : w.ownsRow base e size v n xs) (hb : base' ≤ base) : w.ownsRow base' e size v n xs := by
  refine ⟨h.1, ?_⟩
  rcases h.2 with h2 | ⟨g, cap, cur, rfl, hb', rest⟩
  · exact .inl h2
  · exact .inr ⟨g, cap, cur, rfl, by omega, rest⟩

/-! ### a block that is known whole -/
def Blk (w : World) (g : Nat) (t : TypeId) (cs : Array Value) : Prop := w.heap[g]? = some (.cells cs t (0, 0))
section
variable {F : Nat → Prop} {w w' : World} {g : Nat} {t : TypeId} {cs : Array Value}
theorem Blk.lt (h : Blk w g t cs) : g < w.heap.size := (Array.getElem?_eq_some_iff.1 h).1
theorem Blk.cell (h : Blk w g t cs) (i : Nat) : w.cell? ⟨g, i, none⟩ = cs[i]? := cell_of_row w g i cs t (0, 0) h
theorem Blk.frozen (h : Blk w g t cs) (i : Nat) : w.frozen? ⟨g, i, none⟩ = false := by
  unfold Blk at h
  simp [World.frozen?, h]
theorem Blk.new (w : World) (t : TypeId) (cs : Array Value) : Blk (w.alloc (.cells cs t)) w.heap.size t cs := heap_alloc_new w _
theorem Blk.drew (h : Blk w g t cs) : Blk w.drew g t cs := h
theorem Blk.drewN (h : Blk w g t cs) (n : Nat) : Blk (w.drewN n) g t cs := h
theorem Blk.alloc (h : Blk w g t cs) (o : Obj) : Blk (w.alloc o) g t cs := (Below.heap_alloc w o g h.lt).trans h
theorem Blk.set_ (h : Blk w g t cs) (i : Nat) (u : Value) : Blk (w.setCell ⟨g, i, none⟩ u) g t (cs.setIfInBounds i u) := by
  unfold Blk at h ⊢
  simp [World.setCell, Array.getElem?_modify, h]
theorem Blk.far (h : Blk w g t cs) {p : Addr} (hp : g ≠ p.block) (u : Value) : Blk (w.setCell p u) g t cs := (Below.heap_setCell w p u g hp).trans h
theorem Blk.keep (h : Blk w g t cs) (hm : Mod F w w') (hn : ¬ F g) : Blk w' g t cs := (hm.block g h.lt hn).trans h
theorem Blk.ne_ {g' : Nat} {t' : TypeId} {cs' : Array Value} (h : Blk w g t cs) (h' : Blk w g' t' cs') (hne : t ≠ t') : g ≠ g' := by
  rintro rfl
  unfold Blk at h h'
  rw [h] at h'
  injection h' with h'
  injection h' with _ ht
  exact hne ht
theorem own_blk_ne {base : Nat} {e : TypeId} {size n : Nat} {v : Value} {xs : List Value} (h : w.ownsRow base e size v n xs) (hg : Blk w g t cs) (hne : e ≠ t) : v.ownBlock ≠ some g := by
  rcases h.2 with ⟨rfl, _⟩ | ⟨g', cap, cur, rfl, _, hh, _⟩
  · simp [Value.ownBlock]
  · intro he
    have : g' = g := by simpa [Value.ownBlock] using he
    subst this
    exact Blk.ne_ (t := e) hh hg hne rfl
end

/-! ### append onto a row of the call's own -/
section
variable {P : Program} (w : World)
theorem run_append_of_nil (base : Nat) (t ty e : TypeId) (i : TypeInfo) (size : Nat) (ht : P.underlying t = some (.slice e)) (hi : P.info? e = some i)
    (v : Value) (n : Nat) (xs : List Value) (hown : w.ownsRow base e size v n xs) (c : Nat) : (Builtin.append_ #[t, t] ty #[v, .slice none 0 c]).run P w = .ok v w := by
  rcases hown.2 with ⟨rfl, rfl⟩ | ⟨g, cap, cur, rfl, _, _, hnc, _⟩
  · simp [Builtin.append_, run_underlying ht, sizeOf, typeInfo, hi, Builtin.lenOf, Builtin.firstCells]
  · simp [Builtin.append_, run_underlying ht, sizeOf, typeInfo, hi, Builtin.lenOf, Builtin.firstCells, hnc, storeCells]

/-- append, one cell an element: whatever is appended (nil, empty, a cut). -/
theorem run_append1 (base : Nat) (t ty e : TypeId) (i : TypeInfo) (z : Value) (bytes : Nat) (ht : P.underlying t = some (.slice e)) (hi : P.info? e = some i) (hz : i.zero = some z)
    (hsize : i.size = 1) (hby : i.bytes = bytes) (hzs : z.cells.size = 1)
    (v : Value) (n : Nat) (xs : List Value) (hown : w.ownsRow base e 1 v n xs)
    (S : Nat → Prop) (A : Option Addr) (m c : Nat) (news : List Value) (hl : news.length = m) (hr : Rd S w A news) (h1 : ∀ u ∈ news, u.oneCell' = true)
    (hbytes : (n + m) * bytes ≤ 140737488355328) (h63 : n + m ≤ maxLen) (hbase : base ≤ w.heap.size) :
    ∃ v' w', (Builtin.append_ #[t, t] ty #[v, .slice A m c]).run P w = .ok v' w' ∧ w'.ownsRow base e 1 v' (n + m) (xs ++ news) ∧ w.grownBy w' v.ownBlock ∧
      (v'.ownBlock = v.ownBlock ∨ v'.ownBlock = some w.heap.size) := by
  rcases A with _ | ad
  · have hm : m = 0 := by
      rcases Nat.eq_zero_or_pos m with h0 | h0
      · exact h0
      · obtain ⟨ad, h, _⟩ := hr (by omega)
        cases h
    subst hm
    have hn : news = [] := List.eq_nil_of_length_eq_zero hl
    subst hn
    exact ⟨v, w, run_append_of_nil w base t ty e i 1 ht hi v n xs hown c, by simpa using hown, World.grownBy.refl w _, .inl rfl⟩
  · have hcells : ∀ j u, news[j]? = some u → w.cell? (ad.add j) = some u := by
      intro j u hu
      have hlt := (List.getElem?_eq_some_iff.1 hu).1
      obtain ⟨ad', h, _, _, hc⟩ := hr (by omega)
      injection h with h
      subst h
      exact hc j u hu
    obtain ⟨v', w', hrun, h2, h3, _, h5⟩ := run_append_own_at (P := P) w base t ty e i z 1 bytes ht hi hz hsize hby hzs (by omega) v n xs hown ad m c news (by simpa using hl) hcells h1 h63 hbytes hbase
    exact ⟨v', w', hrun, h2, h3, h5⟩

/-- append of one element or more at one cell an element, the new value written out. -/
theorem run_append_lies1 (base : Nat) (t ty e : TypeId) (i : TypeInfo) (z : Value) (bytes : Nat) (ht : P.underlying t = some (.slice e)) (hi : P.info? e = some i) (hz : i.zero = some z)
    (hsize : i.size = 1) (hby : i.bytes = bytes) (hzs : z.cells.size = 1)
    (v : Value) (n : Nat) (xs : List Value) (hown : w.ownsRow base e 1 v n xs)
    (S : Nat → Prop) (A : Option Addr) (m c : Nat) (news : List Value) (hl : news.length = m) (hr : Rd S w A news) (h1 : ∀ u ∈ news, u.oneCell' = true)
    (hbytes : (n + m) * bytes ≤ 140737488355328) (h63 : n + m ≤ maxLen) (hbase : base ≤ w.heap.size) :
    ∃ A' c' w', (Builtin.append_ #[t, t] ty #[v, .slice A m c]).run P w = .ok (.slice A' (n + m) c') w' ∧ w'.ownsRow base e 1 (.slice A' (n + m) c') (n + m) (xs ++ news) ∧ Mod (fun k => v.ownBlock = some k) w w' ∧
      (∀ k, (Value.slice A' (n + m) c').ownBlock = some k → v.ownBlock = some k ∨ w.heap.size ≤ k) := by
  obtain ⟨v', w', hrun, h2, h3, h4⟩ := run_append1 (P := P) w base t ty e i z bytes ht hi hz hsize hby hzs v n xs hown S A m c news hl hr h1 hbytes h63 hbase
  obtain ⟨A', c', rfl, _, _⟩ := own_slice h2
  refine ⟨A', c', w', hrun, h2, Mod.of_grown h3, fun k hk => ?_⟩
  rcases h4 with h4 | h4
  · exact .inl (h4 ▸ hk)
  · rw [h4] at hk
    injection hk with hk
    exact .inr (by omega)

theorem step_append1 {ops : Array Oper} {o : Oper} {a : Act} {K : Act → World → Prop} {Q : Exit → Act → World → Prop} {E : Prop} (hgd : o.guard = none) (s x : Operand) (t : TypeId)
    (ho : o.op = .call { callee := .builtin .append, args := #[s, x], argTypes := #[t, t] })
    (base : Nat) (e : TypeId) (i : TypeInfo) (z : Value) (bytes : Nat) (ht : P.underlying t = some (.slice e)) (hi : P.info? e = some i) (hz : i.zero = some z)
    (hsize : i.size = 1) (hby : i.bytes = bytes) (hzs : z.cells.size = 1)
    (v : Value) (n : Nat) (xs : List Value) (hs : a.eval s = v) (hown : w.ownsRow base e 1 v n xs)
    (S : Nat → Prop) (A : Option Addr) (m c : Nat) (news : List Value) (hx : a.eval x = .slice A m c) (hl : news.length = m) (hr : Rd S w A news) (h1 : ∀ u ∈ news, u.oneCell' = true)
    (hbytes : (n + m) * bytes ≤ 140737488355328) (h63 : n + m ≤ maxLen) (hbase : base ≤ w.heap.size)
    (h : ∀ A' c' w', w'.ownsRow base e 1 (.slice A' (n + m) c') (n + m) (xs ++ news) → Mod (fun k => v.ownBlock = some k) w w' → (∀ k, (Value.slice A' (n + m) c').ownBlock = some k → v.ownBlock = some k ∨ w.heap.size ≤ k) → K (a.put o.dst (.slice A' (n + m) c')) w') :
    if Region.wanted o (yielded ops a.tmps) = true then Oper.wp P o a w K Q else E := by
  have hw : Region.wanted o (yielded ops a.tmps) = true := by simp [Region.wanted, hgd]
  rw [if_pos hw]
  obtain ⟨A', c', w', hrun, h2, h3, h4⟩ := run_append_lies1 (P := P) w base t o.type e i z bytes ht hi hz hsize hby hzs v n xs hown S A m c news hl hr h1 hbytes h63 hbase
  unfold Oper.wp execOp
  simp only [ho, resolve, invoke, builtin, Sem.run_bind, Sem.run_pure, Result.andThen_ok, List.map_toArray, List.map_cons, List.map_nil, hs, hx, hrun]
  exact h A' c' w' h2 h3 h4

theorem wpList_append1' {ops : Array Oper} {rest : List Oper} {o : Oper} {a : Act} {Q : Exit → Act → World → Prop} (hgd : o.guard = none) (s x : Operand) (t : TypeId)
    (ho : o.op = .call { callee := .builtin .append, args := #[s, x], argTypes := #[t, t] })
    (base : Nat) (e : TypeId) (i : TypeInfo) (z : Value) (bytes : Nat) (ht : P.underlying t = some (.slice e)) (hi : P.info? e = some i) (hz : i.zero = some z)
    (hsize : i.size = 1) (hby : i.bytes = bytes) (hzs : z.cells.size = 1)
    (v : Value) (n : Nat) (xs : List Value) (hs : a.eval s = v) (hown : w.ownsRow base e 1 v n xs)
    (S : Nat → Prop) (A : Option Addr) (m c : Nat) (news : List Value) (hx : a.eval x = .slice A m c) (hl : news.length = m) (hr : Rd S w A news) (h1 : ∀ u ∈ news, u.oneCell' = true)
    (hbytes : (n + m) * bytes ≤ 140737488355328) (h63 : n + m ≤ maxLen) (hbase : base ≤ w.heap.size)
    (h : ∀ A' c' w', w'.ownsRow base e 1 (.slice A' (n + m) c') (n + m) (xs ++ news) → Mod (fun k => v.ownBlock = some k) w w' → (∀ k, (Value.slice A' (n + m) c').ownBlock = some k → v.ownBlock = some k ∨ w.heap.size ≤ k) → wpList P ops Q rest (a.put o.dst (.slice A' (n + m) c')) w') : wpList P ops Q (o :: rest) a w := by
  refine wpList_plain hgd fun K hK => ?_
  obtain ⟨A', c', w', hrun, h2, h3, h4⟩ := run_append_lies1 (P := P) w base t o.type e i z bytes ht hi hz hsize hby hzs v n xs hown S A m c news hl hr h1 hbytes h63 hbase
  unfold Oper.wp execOp
  simp only [ho, resolve, invoke, builtin, Sem.run_bind, Sem.run_pure, Result.andThen_ok, List.map_toArray, List.map_cons, List.map_nil, hs, hx, hrun]
  exact hK _ _ (h A' c' w' h2 h3 h4)

theorem wpList_append1 {ops : Array Oper} {rest : List Oper} {o : Oper} {a : Act} {Q : Exit → Act → World → Prop} (hgd : o.guard = none) (s x : Operand) (t : TypeId)
    (ho : o.op = .call { callee := .builtin .append, args := #[s, x], argTypes := #[t, t] })
    (base : Nat) (e : TypeId) (i : TypeInfo) (z : Value) (bytes : Nat) (ht : P.underlying t = some (.slice e)) (hi : P.info? e = some i) (hz : i.zero = some z)
    (hsize : i.size = 1) (hby : i.bytes = bytes) (hzs : z.cells.size = 1)
    (v : Value) (n : Nat) (xs : List Value) (hs : a.eval s = v) (hown : w.ownsRow base e 1 v n xs)
    (S : Nat → Prop) (A : Option Addr) (m c : Nat) (news : List Value) (hx : a.eval x = .slice A m c) (hl : news.length = m) (hr : Rd S w A news) (h1 : ∀ u ∈ news, u.oneCell' = true)
    (hbytes : (n + m) * bytes ≤ 140737488355328) (h63 : n + m ≤ maxLen) (hbase : base ≤ w.heap.size)
    (h : ∀ v' w', w'.ownsRow base e 1 v' (n + m) (xs ++ news) → w.grownBy w' v.ownBlock → (v'.ownBlock = v.ownBlock ∨ v'.ownBlock = some w.heap.size) → wpList P ops Q rest (a.put o.dst v') w') : wpList P ops Q (o :: rest) a w := by
  refine wpList_plain hgd fun K hK => ?_
  obtain ⟨v', w', hrun, h2, h3, h4⟩ := run_append1 (P := P) w base t o.type e i z bytes ht hi hz hsize hby hzs v n xs hown S A m c news hl hr h1 hbytes h63 hbase
  unfold Oper.wp execOp
  simp only [ho, resolve, invoke, builtin, Sem.run_bind, Sem.run_pure, Result.andThen_ok, List.map_toArray, List.map_cons, List.map_nil, hs, hx, hrun]
  exact hK _ _ (h v' w' h2 h3 h4)
end

/-- A slice's value that reads as xs, a cell each. -/
def IsSl (n : Nat) (xs : List Value) (v : Value) (w : World) : Prop := ∃ A c, v = .slice A n c ∧ n ≤ c ∧ c ≤ maxLen ∧ xs.length = n ∧ Rd All w A xs
theorem IsSl.keep0 {n : Nat} {xs : List Value} {v : Value} {w w' : World} (h : IsSl n xs v w) (hm : Mod Nil w w') : IsSl n xs v w' := by
  obtain ⟨A, c, h1, h2, h3, h4, h5⟩ := h
  exact ⟨A, c, h1, h2, h3, h4, h5.keep0 hm⟩
theorem IsSl.of_own {base n : Nat} {e : TypeId} {xs : List Value} {v : Value} {w : World} (h : w.ownsRow base e 1 v n xs) : IsSl n xs v w := by
  obtain ⟨A, c, rfl, h1, h2⟩ := own_slice h
  exact ⟨A, c, rfl, h1, h2, by simpa using h.1, (Rd.of_own h).mono fun _ _ _ => trivial⟩

theorem bv_one (l : List UInt8) : ∀ u ∈ l.map bv, u.oneCell' = true := by
  intro u hu
  obtain ⟨_, _, rfl⟩ := List.mem_map.1 hu
  rfl

theorem ret_int {k : IntKind} {a b : Int} (h : a = b) : Ending.returned (.int k a) = .returned (.int k b) := by rw [h]
theorem ret_bool {a b : Bool} (h : a = b) : Ending.returned (.bool a) = .returned (.bool b) := by rw [h]

theorem u8_info : (Tryd.prog.info? 5).map (fun i => (i.zero, i.size, i.bytes)) = some (some (.int .u8 0), 1, 1) := by kernel_rfl

end Go.Proofs.YtefloadjolpgbaaDoor

namespace Go.Proofs.YtefloadjolpgbaaDoor
open Go.RowKit

/-- The string of octets. -/
def str (l : List UInt8) : ByteArray := ⟨l.toArray⟩
theorem str_list (l : List UInt8) : (str l).data.toList = l := rfl
theorem str_size (l : List UInt8) : (str l).size = l.length := by simp [str, ByteArray.size]
theorem str_inj {a b : List UInt8} (h : str a = str b) : a = b := by
  have := congrArg (fun x : ByteArray => x.data.toList) h
  exact this
theorem str_eta (s : ByteArray) : str s.data.toList = s := by
  unfold str
  cases s
  rfl
theorem str_append (a b : List UInt8) : str a ++ str b = str (a ++ b) := by
  apply ByteArray.ext
  simp [str]

theorem Mod.bytes {F : Nat → Prop} {a w : World} (h : Mod F a w) (e : TypeId) (s : ByteArray) : Mod F a (Lib.bytesWorld w e s) :=
  ⟨h.os, h.tape, h.output, by rw [Lib.bytesWorld_size]; have := h.size; omega, fun i hi hn => (Lib.bytesWorld_at_old w e s i (Nat.lt_of_lt_of_le hi h.size)).trans (h.block i hi hn)⟩

theorem Rd.bytes (w : World) (e : TypeId) (s : ByteArray) : Rd (fun b => w.heap.size ≤ b) (Lib.bytesWorld w e s) (some ⟨w.heap.size, 0, none⟩) (s.data.toList.map bv) := fun _ => by
  refine ⟨_, rfl, Nat.le_refl _, by rw [Lib.bytesWorld_size]; show w.heap.size < _; omega, fun j u hu => ?_⟩
  have hlen : s.data.toList.length = s.size := Array.length_toList
  have hj : j < s.size := by
    have := (List.getElem?_eq_some_iff.1 hu).1
    rw [List.length_map] at this
    omega
  have e1 : (⟨w.heap.size, 0, none⟩ : Addr).add j = ⟨w.heap.size, j, none⟩ := by unfold Addr.add; split <;> simp_all
  rw [e1, Lib.bytesWorld_cell w e s j hj, ← hu]
  simp [bv, List.getD, hj]

end Go.Proofs.YtefloadjolpgbaaDoor

namespace Go.Proofs.YtefloadjolpgbaaDoor
open Go.RowKit Go.ChangeShapes Go.WideShapes Go.ChangeAt
open Go.ChangeMaps (open_string shut_string)

theorem own_ : ownKnob Tryd.prog.godebug = none := by kernel_rfl
theorem laidOut_ : laidOutB Tryd.prog = true := by kernel_rfl

theorem wf_u8 {x : Int} (h : (Lit.int .u8 x).wf = true) : 0 ≤ x ∧ x < 256 := by
  have := bounds_u8 h
  omega

end Go.Proofs.YtefloadjolpgbaaDoor

namespace Go.Proofs.YtefloadjolpgbaaDoor
open Go.RowKit Go.Deep

inductive Dt where
  | int (k : IntKind) (x : Int)
  | bool (b : Bool)
  | str (l : List UInt8)
  | agg (fs : List Dt)
  | sl (xs : List Dt)

/-- So a datum of a type lies: its cells; what its slices show. -/
inductive At (P : Program) (w : World) : TypeId → Dt → List Value → Prop
  | int (t : TypeId) (k : IntKind) (x : Int) (ht : P.underlying t = some (.int k)) (hx : (Lit.int k x).wf = true) : At P w t (.int k x) [.int k x]
  | bool (t : TypeId) (b : Bool) (ht : P.underlying t = some .bool) : At P w t (.bool b) [.bool b]
  | str (t : TypeId) (l : List UInt8) (ht : P.underlying t = some .string) (hl : l.length ≤ maxLen) : At P w t (.str l) [.string (str l)]
  | agg (t : TypeId) (fs : Array Field) (ds : List Dt) (cs : List Value) (ht : P.underlying t = some (.struct fs)) (hl : ds.length = fs.size) (hc : cs.length = P.cellsOf t)
      (h : ∀ (i : Nat) (f : Field) (d : Dt), fs[i]? = some f → ds[i]? = some d → At P w f.type d ((cs.drop f.offset).take (P.cellsOf f.type))) : At P w t (.agg ds) cs
  | nil (t e : TypeId) (ht : P.underlying t = some (.slice e)) : At P w t (.sl []) [.slice none 0 0]
  | sl (t e : TypeId) (ds : List Dt) (a : Addr) (cap : Nat) (css : Nat → List Value) (ht : P.underlying t = some (.slice e)) (hc : ds.length ≤ cap) (hm : cap ≤ maxLen)
      (hcs : ∀ i, i < ds.length → (css i).length = P.cellsOf e ∧ ∀ (j : Nat) (u : Value), (css i)[j]? = some u → w.cell? (a.add (i * P.cellsOf e + j)) = some u) (h : ∀ (i : Nat) (d : Dt), ds[i]? = some d → At P w e d (css i)) : At P w t (.sl ds) [.slice (some a) ds.length cap]

theorem At.keep {P : Program} {w w' : World} (hm : Mod Nil w w') {t : TypeId} {d : Dt} {cs : List Value} (h : At P w t d cs) : At P w' t d cs := by
  induction h with
  | int t k x ht hx => exact .int t k x ht hx
  | bool t b ht => exact .bool t b ht
  | str t l ht hl => exact .str t l ht hl
  | agg t fs ds cs ht hl hc _ ih => exact .agg t fs ds cs ht hl hc ih
  | nil t e ht => exact .nil t e ht
  | sl t e ds a cap css ht hc hm' hcs _ ih =>
    exact .sl t e ds a cap css ht hc hm' (fun i hi => ⟨(hcs i hi).1, fun j u hu => by
      have h1 := (hcs i hi).2 j u hu
      have hb := World.block_lt_of_cell? w _ h1
      rw [← h1]
      exact hm.cell hb id⟩) ih

/-- The types that a set of types is made of. -/
def closedTys (P : Program) (S : List TypeId) : Bool := S.all fun t => match P.underlying t with
  | some (.int _) => true
  | some .bool => true
  | some .string => true
  | some (.struct fs) => fs.all fun f => S.contains f.type
  | some (.slice e) => S.contains e
  | _ => false

section
variable {H : Type} {enc : TypeId × Value → H} {P : Program} {w : World} {base : Nat} {spare : Nat → Bool} {held : Bool}

theorem open_dt {S : List TypeId} (hS : closedTys P S = true) : ∀ (fuel : Nat) (t : TypeId) (cs : List Value) (x : DataW H × List MemPlace), t ∈ S → DataW.trod enc P w base spare held fuel t cs = some x → ∃ d, At P w t d cs
  | 0, t, cs, x, _, h => by simp [DataW.trod] at h
  | fuel + 1, t, cs, x, ht, h => by
    have hall := List.all_eq_true.1 hS t ht
    split at hall
    · rename_i k hu
      obtain ⟨n, rfl, _, hw⟩ := DataW.trod_int hu h
      exact ⟨_, .int t k n hu hw⟩
    · rename_i hu
      obtain ⟨b, rfl, _⟩ := DataW.trod_bool hu h
      exact ⟨_, .bool t b hu⟩
    · rename_i hu
      obtain ⟨s, rfl, _, hs⟩ := DataW.trod_string hu h
      refine ⟨.str s.data.toList, ?_⟩
      have := At.str (P := P) (w := w) t s.data.toList hu (by rw [Array.length_toList]; exact hs)
      rw [str_eta] at this
      exact this
    · rename_i fs hu
      obtain ⟨xs, n, hn, _, hlen, hxl, hf⟩ := DataW.trod_struct hu h
      obtain rfl : fuel = n := by omega
      have each : ∀ i, i < fs.size → ∃ d : Dt, ∀ f : Field, fs[i]? = some f → At P w f.type d ((cs.drop f.offset).take (P.cellsOf f.type)) := by
        intro i hi
        obtain ⟨f, hfi⟩ : ∃ f, fs[i]? = some f := ⟨_, Array.getElem?_eq_getElem hi⟩
        have h1 := hf i f hfi
        rw [List.getElem?_eq_getElem (show i < xs.length by omega)] at h1
        have hm : f.type ∈ S := by
          rw [Array.all_eq_true] at hall
          have h2 := hall i hi
          have h3 : fs[i] = f := (Array.getElem?_eq_some_iff.1 hfi).2
          rw [h3] at h2
          simpa using h2
        obtain ⟨d, hd⟩ := open_dt hS fuel f.type _ _ hm h1
        exact ⟨d, fun f' hf' => by rw [hfi] at hf'; cases hf'; exact hd⟩
      obtain ⟨D, hD⟩ : ∃ D : Nat → Dt, ∀ i, i < fs.size → ∀ f : Field, fs[i]? = some f → At P w f.type (D i) ((cs.drop f.offset).take (P.cellsOf f.type)) :=
        ⟨fun i => if hi : i < fs.size then (each i hi).choose else .bool true, fun i hi => by simp only [hi, dif_pos]; exact (each i hi).choose_spec⟩
      refine ⟨.agg ((List.range fs.size).map D), .agg t fs _ cs hu (by simp) hlen fun i f d hfi hd => ?_⟩
      have hi : i < fs.size := (Array.getElem?_eq_some_iff.1 hfi).1
      have : D i = d := by simpa [hi] using hd
      rw [← this]
      exact hD i hi f hfi
    · rename_i e hu
      have hm : e ∈ S := by simpa using hall
      rcases DataW.trod_slice hu h with ⟨rfl, _⟩ | ⟨a, len, cap, elems, rest, n, hn, rfl, _, _, hl, hmx, hel, hat, _⟩
      · exact ⟨_, .nil t e hu⟩
      · obtain rfl : fuel = n := by omega
        have each : ∀ i, i < len → ∃ (d : Dt) (cs' : List Value), At P w e d cs' ∧ cs'.length = P.cellsOf e ∧ ∀ (j : Nat) (u : Value), cs'[j]? = some u → w.cell? (a.add (i * P.cellsOf e + j)) = some u := by
          intro i hi
          have h1 := hat i hi
          rw [List.getElem?_eq_getElem (show i < elems.length by omega)] at h1
          obtain ⟨cs', hc, ht'⟩ := Option.bind_eq_some_iff.1 h1
          obtain ⟨d, hd⟩ := open_dt hS fuel e _ _ hm ht'
          obtain ⟨_, hcl, hcell⟩ := World.cells?_some hc
          refine ⟨d, cs', hd, hcl, fun j u hu => ?_⟩
          have hj : j < P.cellsOf e := by have := (List.getElem?_eq_some_iff.1 hu).1; omega
          rw [← Go.Deep.add_add, hcell j hj]
          exact hu
        obtain ⟨D, hD⟩ : ∃ D : Nat → Dt × List Value, ∀ i, i < len → At P w e (D i).1 (D i).2 ∧ (D i).2.length = P.cellsOf e ∧ ∀ (j : Nat) (u : Value), (D i).2[j]? = some u → w.cell? (a.add (i * P.cellsOf e + j)) = some u :=
          ⟨fun i => if hi : i < len then ((each i hi).choose, (each i hi).choose_spec.choose) else (.bool true, []), fun i hi => by simp only [hi, dif_pos]; exact (each i hi).choose_spec.choose_spec⟩
        refine ⟨.sl ((List.range len).map fun i => (D i).1), ?_⟩
        have key := At.sl (P := P) (w := w) t e ((List.range len).map fun i => (D i).1) a cap (fun i => (D i).2) hu (by simpa using hl) hmx (fun i hi => (hD i (by simpa using hi)).2) (fun i d hd => ?_)
        · simpa using key
        · have hi : i < len := by have := (List.getElem?_eq_some_iff.1 hd).1; simpa using this
          have : (D i).1 = d := by simpa [hi] using hd
          rw [← this]
          exact (hD i hi).1
    · cases hall
end
end Go.Proofs.YtefloadjolpgbaaDoor

namespace Go.Proofs.YtefloadjolpgbaaDoor
open Go.RowKit Go.Deep

section
variable {P : Program} {w : World} {t : TypeId} {d : Dt} {cs : List Value}

theorem At.int_inv {k : IntKind} (h : At P w t d cs) (ht : P.underlying t = some (.int k)) : ∃ x, d = .int k x ∧ cs = [.int k x] ∧ (Lit.int k x).wf = true := by
  cases h with
  | int t k' x ht' hx => rw [ht] at ht'; cases ht'; exact ⟨x, rfl, rfl, hx⟩
  | bool t b ht' => rw [ht] at ht'; cases ht'
  | str t l ht' hl => rw [ht] at ht'; cases ht'
  | agg t fs ds cs ht' hl hc h => rw [ht] at ht'; cases ht'
  | nil t e ht' => rw [ht] at ht'; cases ht'
  | sl t e ds a cap css ht' hc hm hcs h => rw [ht] at ht'; cases ht'
theorem At.bool_inv (h : At P w t d cs) (ht : P.underlying t = some .bool) : ∃ b, d = .bool b ∧ cs = [.bool b] := by
  cases h with
  | int t k' x ht' hx => rw [ht] at ht'; cases ht'
  | bool t b ht' => exact ⟨b, rfl, rfl⟩
  | str t l ht' hl => rw [ht] at ht'; cases ht'
  | agg t fs ds cs ht' hl hc h => rw [ht] at ht'; cases ht'
  | nil t e ht' => rw [ht] at ht'; cases ht'
  | sl t e ds a cap css ht' hc hm hcs h => rw [ht] at ht'; cases ht'
theorem At.str_inv (h : At P w t d cs) (ht : P.underlying t = some .string) : ∃ l : List UInt8, d = .str l ∧ cs = [.string (Go.Proofs.YtefloadjolpgbaaDoor.str l)] ∧ l.length ≤ maxLen := by
  cases h with
  | int t k' x ht' hx => rw [ht] at ht'; cases ht'
  | bool t b ht' => rw [ht] at ht'; cases ht'
  | str _ l' ht' hl => exact ⟨l', rfl, rfl, hl⟩
  | agg t fs ds cs ht' hl hc h => rw [ht] at ht'; cases ht'
  | nil t e ht' => rw [ht] at ht'; cases ht'
  | sl t e ds a cap css ht' hc hm hcs h => rw [ht] at ht'; cases ht'
theorem At.agg_inv {fs : Array Field} (h : At P w t d cs) (ht : P.underlying t = some (.struct fs)) : ∃ ds, d = .agg ds ∧ ds.length = fs.size ∧ cs.length = P.cellsOf t ∧
    ∀ (i : Nat) (f : Field), fs[i]? = some f → ∃ di, ds[i]? = some di ∧ At P w f.type di ((cs.drop f.offset).take (P.cellsOf f.type)) := by
  cases h with
  | int t k' x ht' hx => rw [ht] at ht'; cases ht'
  | bool t b ht' => rw [ht] at ht'; cases ht'
  | str t l ht' hl => rw [ht] at ht'; cases ht'
  | agg t fs' ds cs ht' hl hc h =>
    rw [ht] at ht'
    cases ht'
    refine ⟨ds, rfl, hl, hc, fun i f hf => ?_⟩
    have hi := (Array.getElem?_eq_some_iff.1 hf).1
    obtain ⟨di, hdi⟩ : ∃ di, ds[i]? = some di := ⟨_, List.getElem?_eq_getElem (by omega)⟩
    exact ⟨di, hdi, h i f di hf hdi⟩
  | nil t e ht' => rw [ht] at ht'; cases ht'
  | sl t e ds a cap css ht' hc hm hcs h => rw [ht] at ht'; cases ht'

/-- A struct's fields: where, of which type, how many cells. -/
def fieldsOf (P : Program) (t : TypeId) : Option (List (Nat × TypeId × Nat)) := match P.underlying t with
  | some (.struct fs) => some (fs.toList.map fun f => (f.offset, f.type, P.cellsOf f.type))
  | _ => none
theorem At.fields (h : At P w t d cs) {L : List (Nat × TypeId × Nat)} (hf : fieldsOf P t = some L) : ∃ ds, d = .agg ds ∧ ds.length = L.length ∧ cs.length = P.cellsOf t ∧
    ∀ (i o : Nat) (ty : TypeId) (n : Nat), L[i]? = some (o, ty, n) → ∃ di, ds[i]? = some di ∧ At P w ty di ((cs.drop o).take n) := by
  unfold fieldsOf at hf
  split at hf
  · rename_i fs hu
    cases hf
    obtain ⟨ds, h1, h2, h3, h4⟩ := h.agg_inv hu
    refine ⟨ds, h1, by simpa using h2, h3, fun i o ty n hi => ?_⟩
    rw [List.getElem?_map] at hi
    obtain ⟨f, hfi, he⟩ := Option.map_eq_some_iff.1 hi
    cases he
    exact h4 i f (by simpa using hfi)
  · cases hf

theorem flat_split {sz : Nat} (h0 : 0 < sz) : ∀ (rows : List (List Value)), (∀ r ∈ rows, r.length = sz) → ∀ (k : Nat) (u : Value), rows.flatten[k]? = some u → ∃ r, rows[k / sz]? = some r ∧ r[k % sz]? = some u
  | [], _, k, u, h => by simp at h
  | r :: rs, hl, k, u, h => by
    have hr := hl r (List.mem_cons_self ..)
    rw [List.flatten_cons] at h
    rcases Nat.lt_or_ge k sz with hk | hk
    · rw [List.getElem?_append_left (by omega)] at h
      exact ⟨r, by rw [Nat.div_eq_of_lt hk]; rfl, by rw [Nat.mod_eq_of_lt hk]; exact h⟩
    · rw [List.getElem?_append_right (by omega), hr] at h
      obtain ⟨q, h1, h2⟩ := flat_split h0 rs (fun x hx => hl x (List.mem_cons_of_mem _ hx)) (k - sz) u h
      refine ⟨q, ?_, ?_⟩
      · have : k / sz = (k - sz) / sz + 1 := by rw [Nat.div_eq_sub_div h0 hk]
        rw [this]
        exact h1
      · rw [Nat.mod_eq_sub_mod hk]
        exact h2

theorem rd_rows {sz n : Nat} {a : Addr} {css : Nat → List Value} (h0 : 0 < sz) (hcs : ∀ i, i < n → (css i).length = sz ∧ ∀ (j : Nat) (u : Value), (css i)[j]? = some u → w.cell? (a.add (i * sz + j)) = some u) :
    Rd All w (some a) ((List.range n).map css).flatten ∧ ∀ r ∈ (List.range n).map css, r.length = sz := by
  have hrl : ∀ r ∈ (List.range n).map css, r.length = sz := by
    intro r hr
    obtain ⟨i, hi, rfl⟩ := List.mem_map.1 hr
    exact (hcs i (List.mem_range.1 hi)).1
  have hcell : ∀ (k : Nat) (u : Value), ((List.range n).map css).flatten[k]? = some u → w.cell? (a.add k) = some u := by
    intro k u hu
    obtain ⟨r, h1, h2⟩ := flat_split h0 _ hrl k u hu
    have hi : k / sz < n := by have := (List.getElem?_eq_some_iff.1 h1).1; simpa using this
    have : css (k / sz) = r := by simpa [hi] using h1
    subst this
    have h3 := (hcs _ hi).2 _ u h2
    rw [Nat.div_add_mod'] at h3
    exact h3
  refine ⟨fun hn => ?_, hrl⟩
  have h1 := hcell 0 _ (List.getElem?_eq_getElem hn)
  have hb := World.block_lt_of_cell? w _ h1
  rw [block_of_add] at hb
  exact ⟨a, rfl, trivial, hb, hcell⟩

/-- A slice: its elements, the rows of their cells. -/
theorem At.sl_inv {e : TypeId} (h : At P w t d cs) (ht : P.underlying t = some (.slice e)) (h0 : 0 < P.cellsOf e) : ∃ (ds : List Dt) (A : Option Addr) (cap : Nat) (rows : List (List Value)), d = .sl ds ∧ cs = [.slice A ds.length cap] ∧ ds.length ≤ cap ∧ cap ≤ maxLen ∧
    rows.length = ds.length ∧ Rd All w A rows.flatten ∧ (∀ r ∈ rows, r.length = P.cellsOf e) ∧ ∀ (i : Nat) (x : Dt) (r : List Value), ds[i]? = some x → rows[i]? = some r → At P w e x r := by
  cases h with
  | int t k' x ht' hx => rw [ht] at ht'; cases ht'
  | bool t b ht' => rw [ht] at ht'; cases ht'
  | str t l ht' hl => rw [ht] at ht'; cases ht'
  | agg t fs' ds cs ht' hl hc h => rw [ht] at ht'; cases ht'
  | nil t e' ht' => exact ⟨[], none, 0, [], rfl, rfl, Nat.le_refl _, Nat.zero_le _, rfl, Rd.nil _ _ _, (fun r hr => by cases hr), (fun i x r hi => by cases hi)⟩
  | sl t e' ds a cap css ht' hc hm hcs h =>
    rw [ht] at ht'
    cases ht'
    obtain ⟨h1, h2⟩ := rd_rows h0 hcs
    refine ⟨ds, some a, cap, (List.range ds.length).map css, rfl, rfl, hc, hm, by simp, h1, h2, fun i x r hi hr => ?_⟩
    have hil : i < ds.length := (List.getElem?_eq_some_iff.1 hi).1
    have : css i = r := by simpa [hil] using hr
    subst this
    exact h i x hi

theorem one_of_take {cs : List Value} {o : Nat} {v : Value} (h : (cs.drop o).take 1 = [v]) : cs[o]? = some v := by
  have h1 : ((cs.drop o).take 1)[0]? = some v := by rw [h]; rfl
  rw [List.getElem?_take, if_pos (by decide), List.getElem?_drop] at h1
  exact h1
theorem list_of3 {cs : List Value} {a b c : Value} (hl : cs.length = 3) (h0 : cs[0]? = some a) (h1 : cs[1]? = some b) (h2 : cs[2]? = some c) : cs = [a, b, c] := by
  rcases cs with _ | ⟨x, _ | ⟨y, _ | ⟨z, _ | ⟨u, r⟩⟩⟩⟩ <;> simp_all
theorem list_of6 {cs : List Value} {a b c d e f : Value} (hl : cs.length = 6) (h0 : cs[0]? = some a) (h1 : cs[1]? = some b) (h2 : cs[2]? = some c) (h3 : cs[3]? = some d) (h4 : cs[4]? = some e) (h5 : cs[5]? = some f) : cs = [a, b, c, d, e, f] := by
  rcases cs with _ | ⟨x, _ | ⟨y, _ | ⟨z, _ | ⟨u, _ | ⟨v, _ | ⟨q, _ | ⟨p, r⟩⟩⟩⟩⟩⟩⟩ <;> simp_all
end
end Go.Proofs.YtefloadjolpgbaaDoor

namespace Go.Proofs.YtefloadjolpgbaaDoor
open Go.RowKit Go.Deep

structure LitT where
  kind : Int
  n : Int
  text : List UInt8
deriving DecidableEq
structure InsT where
  op : Int
  a : Int
  b : Int
deriving DecidableEq
inductive CodeT where
  | mk (args vars : Int) (lits : List LitT) (ins : List InsT) (blocks : List CodeT) (cls : List UInt8)

def CodeT.args : CodeT → Int | .mk a _ _ _ _ _ => a
def CodeT.vars : CodeT → Int | .mk _ v _ _ _ _ => v
def CodeT.lits : CodeT → List LitT | .mk _ _ l _ _ _ => l
def CodeT.ins : CodeT → List InsT | .mk _ _ _ i _ _ => i
def CodeT.blocks : CodeT → List CodeT | .mk _ _ _ _ b _ => b
def CodeT.cls : CodeT → List UInt8 | .mk _ _ _ _ _ c => c

def i64 (x : Int) : Prop := -9223372036854775808 ≤ x ∧ x ≤ 9223372036854775807
def litC (x : LitT) : List Value := [.int .i64 x.kind, .int .i64 x.n, .string (str x.text)]
def insC (x : InsT) : List Value := [.int .i64 x.op, .int .i64 x.a, .int .i64 x.b]
def LitT.ok (x : LitT) : Prop := i64 x.kind ∧ i64 x.n ∧ x.text.length ≤ maxLen
def InsT.ok (x : InsT) : Prop := i64 x.op ∧ i64 x.a ∧ i64 x.b

/-- So code lies: its six cells. -/
inductive CodeC (w : World) : CodeT → List Value → Prop
  | mk (args vars : Int) (lits : List LitT) (ins : List InsT) (blocks : List CodeT) (cls : List UInt8) (A2 A3 A4 : Option Addr) (c2 c3 c4 : Nat) (rows : List (List Value))
      (ha : i64 args) (hv : i64 vars) (hcl : cls.length ≤ maxLen) (hl : ∀ x ∈ lits, x.ok) (hi : ∀ x ∈ ins, x.ok) (n2 : lits.length ≤ c2) (m2 : c2 ≤ maxLen) (n3 : ins.length ≤ c3) (m3 : c3 ≤ maxLen) (n4 : blocks.length ≤ c4) (m4 : c4 ≤ maxLen)
      (r2 : Rd All w A2 (lits.flatMap litC)) (r3 : Rd All w A3 (ins.flatMap insC)) (r4 : Rd All w A4 rows.flatten) (hr : rows.length = blocks.length) (h6 : ∀ r ∈ rows, r.length = 6)
      (h : ∀ (i : Nat) (b : CodeT) (r : List Value), blocks[i]? = some b → rows[i]? = some r → CodeC w b r) :
      CodeC w (.mk args vars lits ins blocks cls) [.int .i64 args, .int .i64 vars, .slice A2 lits.length c2, .slice A3 ins.length c3, .slice A4 blocks.length c4, .string (str cls)]

theorem CodeC.keep {w w' : World} (hm : Mod Nil w w') {c : CodeT} {cs : List Value} (h : CodeC w c cs) : CodeC w' c cs := by
  induction h with
  | mk args vars lits ins blocks cls A2 A3 A4 c2 c3 c4 rows ha hv hcl hl hi n2 m2 n3 m3 n4 m4 r2 r3 r4 hr h6 _ ih =>
    exact .mk args vars lits ins blocks cls A2 A3 A4 c2 c3 c4 rows ha hv hcl hl hi n2 m2 n3 m3 n4 m4 (r2.keep0 hm) (r3.keep0 hm) (r4.keep0 hm) hr h6 ih

theorem i64_of {x : Int} (h : (Lit.int .i64 x).wf = true) : i64 x := by
  have := bounds_i64 h
  exact ⟨by omega, by omega⟩

theorem flatMap_rows {α : Type} {f : α → List Value} : ∀ (xs : List α) (rows : List (List Value)), rows.length = xs.length → (∀ (i : Nat) (x : α) (r : List Value), xs[i]? = some x → rows[i]? = some r → r = f x) → rows.flatten = xs.flatMap f
  | [], rows, h, _ => by
    have : rows = [] := List.eq_nil_of_length_eq_zero h
    subst this
    rfl
  | x :: xs, rows, h, hx => by
    rcases rows with _ | ⟨r, rows⟩
    · cases h
    · rw [List.flatten_cons, List.flatMap_cons, hx 0 x r rfl rfl, flatMap_rows xs rows (by simpa using h) (fun i y q h1 h2 => hx (i + 1) y q (by simpa using h1) (by simpa using h2))]

set_option maxRecDepth 100000 in
theorem lit_of {w : World} {d : Dt} {cs : List Value} (h : At Tryd.prog w 45 d cs) : ∃ x : LitT, cs = litC x ∧ x.ok := by
  obtain ⟨ds, _, _, hc, hf⟩ := h.fields (L := [(0, 3, 1), (1, 3, 1), (2, 9, 1)]) (by kernel_rfl)
  obtain ⟨d0, _, h0⟩ := hf 0 _ _ _ rfl
  obtain ⟨d1, _, h1⟩ := hf 1 _ _ _ rfl
  obtain ⟨d2, _, h2⟩ := hf 2 _ _ _ rfl
  obtain ⟨k, _, e0, w0⟩ := h0.int_inv Tryd.underlying3
  obtain ⟨n, _, e1, w1⟩ := h1.int_inv Tryd.underlying3
  obtain ⟨l, _, e2, w2⟩ := h2.str_inv Tryd.underlying9
  have hl : cs.length = 3 := hc.trans (by kernel_rfl)
  exact ⟨⟨k, n, l⟩, list_of3 hl (one_of_take e0) (one_of_take e1) (one_of_take e2), i64_of w0, i64_of w1, w2⟩
set_option maxRecDepth 100000 in
theorem ins_of {w : World} {d : Dt} {cs : List Value} (h : At Tryd.prog w 33 d cs) : ∃ x : InsT, cs = insC x ∧ x.ok := by
  obtain ⟨ds, _, _, hc, hf⟩ := h.fields (L := [(0, 3, 1), (1, 3, 1), (2, 3, 1)]) (by kernel_rfl)
  obtain ⟨d0, _, h0⟩ := hf 0 _ _ _ rfl
  obtain ⟨d1, _, h1⟩ := hf 1 _ _ _ rfl
  obtain ⟨d2, _, h2⟩ := hf 2 _ _ _ rfl
  obtain ⟨k, _, e0, w0⟩ := h0.int_inv Tryd.underlying3
  obtain ⟨n, _, e1, w1⟩ := h1.int_inv Tryd.underlying3
  obtain ⟨l, _, e2, w2⟩ := h2.int_inv Tryd.underlying3
  have hl : cs.length = 3 := hc.trans (by kernel_rfl)
  exact ⟨⟨k, n, l⟩, list_of3 hl (one_of_take e0) (one_of_take e1) (one_of_take e2), i64_of w0, i64_of w1, i64_of w2⟩

/-- A list out of one datum an index. -/
theorem list_choose {α : Type} {p : Nat → α → Prop} (n : Nat) (h : ∀ i, i < n → ∃ x, p i x) : ∃ xs : List α, xs.length = n ∧ ∀ (i : Nat) (x : α), xs[i]? = some x → p i x := by
  induction n with
  | zero => exact ⟨[], rfl, fun i x hi => by simp at hi⟩
  | succ n ih =>
    obtain ⟨xs, h1, h2⟩ := ih fun i hi => h i (by omega)
    obtain ⟨x, hx⟩ := h n (by omega)
    refine ⟨xs ++ [x], by simp [h1], fun i y hy => ?_⟩
    rcases Nat.lt_or_ge i xs.length with hi | hi
    · exact h2 i y (by rwa [List.getElem?_append_left hi] at hy)
    · rw [List.getElem?_append_right hi] at hy
      have : i = n := by have := (List.getElem?_eq_some_iff.1 hy).1; simp at this; omega
      subst this
      rw [← h1, Nat.sub_self] at hy
      cases hy
      exact hx
/-- A slice of structs of cells alone. -/
theorem flat_of {α : Type} {w : World} {t e : TypeId} {d : Dt} {cs : List Value} {f : α → List Value} {ok : α → Prop} (h : At Tryd.prog w t d cs) (ht : Tryd.prog.underlying t = some (.slice e)) (h0 : 0 < Tryd.prog.cellsOf e)
    (hx : ∀ (d : Dt) (cs : List Value), At Tryd.prog w e d cs → ∃ x, cs = f x ∧ ok x) : ∃ (xs : List α) (A : Option Addr) (c : Nat), cs = [.slice A xs.length c] ∧ xs.length ≤ c ∧ c ≤ maxLen ∧ Rd All w A (xs.flatMap f) ∧ ∀ x ∈ xs, ok x := by
  obtain ⟨ds, A, cap, rows, _, rfl, h1, h2, h3, h4, _, h5⟩ := h.sl_inv ht h0
  obtain ⟨xs, h6, h7⟩ := list_choose (p := fun i (x : α) => ∃ r, rows[i]? = some r ∧ r = f x ∧ ok x) ds.length (fun i hi => by
    obtain ⟨di, hdi⟩ : ∃ di, ds[i]? = some di := ⟨_, List.getElem?_eq_getElem hi⟩
    obtain ⟨r, hr⟩ : ∃ r, rows[i]? = some r := ⟨_, List.getElem?_eq_getElem (by omega)⟩
    obtain ⟨x, e1, e2⟩ := hx _ _ (h5 i di r hdi hr)
    exact ⟨x, r, hr, e1, e2⟩)
  refine ⟨xs, A, cap, by rw [h6], by omega, h2, ?_, fun x hx => ?_⟩
  · rw [← flatMap_rows (f := f) xs rows (by omega) (fun i x r h8 h9 => by
      obtain ⟨r', h10, h11, _⟩ := h7 i x h8
      rw [h9] at h10
      cases h10
      exact h11)]
    exact h4
  · obtain ⟨i, hi⟩ := List.getElem?_of_mem hx
    exact (h7 i x hi).choose_spec.2.2

set_option maxRecDepth 100000 in
/-- Whatever is of the type is code. -/
theorem code_of_at {w : World} {t : TypeId} {d : Dt} {cs : List Value} (h : At Tryd.prog w t d cs) :
    (t = 26 → ∃ c, CodeC w c cs) ∧
    (t = 24 → ∃ (bs : List CodeT) (A : Option Addr) (c : Nat) (rows : List (List Value)), cs = [.slice A bs.length c] ∧ bs.length ≤ c ∧ c ≤ maxLen ∧ rows.length = bs.length ∧ (∀ r ∈ rows, r.length = 6) ∧ Rd All w A rows.flatten ∧ ∀ (i : Nat) (b : CodeT) (r : List Value), bs[i]? = some b → rows[i]? = some r → CodeC w b r) := by
  induction h with
  | int t k x ht hx => exact ⟨(fun e => by subst e; rw [Tryd.underlying26] at ht; cases ht), (fun e => by subst e; rw [Tryd.underlying24] at ht; cases ht)⟩
  | bool t b ht => exact ⟨(fun e => by subst e; rw [Tryd.underlying26] at ht; cases ht), (fun e => by subst e; rw [Tryd.underlying24] at ht; cases ht)⟩
  | str t l ht hl => exact ⟨(fun e => by subst e; rw [Tryd.underlying26] at ht; cases ht), (fun e => by subst e; rw [Tryd.underlying24] at ht; cases ht)⟩
  | nil t e ht =>
    exact ⟨(fun e => by subst e; rw [Tryd.underlying26] at ht; cases ht), fun _ => ⟨[], none, 0, [], rfl, Nat.le_refl _, Nat.zero_le _, rfl, (fun r hr => by cases hr), Rd.nil _ _ _, (fun i b r hi => by cases hi)⟩⟩
  | sl t e ds a cap css ht hc hm hcs h ih =>
    refine ⟨(fun e => by subst e; rw [Tryd.underlying26] at ht; cases ht), fun e' => ?_⟩
    subst e'
    have he : e = 26 := by rw [Tryd.underlying24] at ht; cases ht; rfl
    subst he
    have hc6 : Tryd.prog.cellsOf 26 = 6 := by kernel_rfl
    rw [hc6] at hcs
    obtain ⟨h1, h2⟩ := rd_rows (by decide) hcs
    obtain ⟨bs, h6, h7⟩ := list_choose (p := fun i (b : CodeT) => CodeC w b (css i)) ds.length (fun i hi => (ih i _ (List.getElem?_eq_getElem hi)).1 rfl)
    refine ⟨bs, some a, cap, (List.range ds.length).map css, by rw [h6], by omega, hm, by simp [h6], h2, h1, fun i b r hi hr => ?_⟩
    have hil : i < ds.length := by have := (List.getElem?_eq_some_iff.1 hi).1; omega
    have : css i = r := by simpa [hil] using hr
    subst this
    exact h7 i b hi
  | agg t fs ds cs ht hl hc h ih =>
    refine ⟨fun e => ?_, (fun e' => by subst e'; rw [Tryd.underlying24] at ht; cases ht)⟩
    subst e
    have hA := At.agg _ fs ds cs ht hl hc h
    obtain ⟨ds', e1, _, hc', hf⟩ := hA.fields (L := [(0, 3, 1), (1, 3, 1), (2, 22, 1), (3, 23, 1), (4, 24, 1), (5, 9, 1)]) (by kernel_rfl)
    cases e1
    obtain ⟨d0, _, h0⟩ := hf 0 _ _ _ rfl
    obtain ⟨d1, _, h1⟩ := hf 1 _ _ _ rfl
    obtain ⟨d2, _, h2⟩ := hf 2 _ _ _ rfl
    obtain ⟨d3, _, h3⟩ := hf 3 _ _ _ rfl
    obtain ⟨d4, hd4, h4⟩ := hf 4 _ _ _ rfl
    obtain ⟨d5, _, h5⟩ := hf 5 _ _ _ rfl
    obtain ⟨x0, _, e0, w0⟩ := h0.int_inv Tryd.underlying3
    obtain ⟨x1, _, e1, w1⟩ := h1.int_inv Tryd.underlying3
    obtain ⟨lits, A2, c2, e2, n2, m2, r2, k2⟩ := flat_of h2 Tryd.underlying22 (by rw [show Tryd.prog.cellsOf 45 = 3 by kernel_rfl]; decide) (fun _ _ h => lit_of h)
    obtain ⟨ins, A3, c3, e3, n3, m3, r3, k3⟩ := flat_of h3 Tryd.underlying23 (by rw [show Tryd.prog.cellsOf 33 = 3 by kernel_rfl]; decide) (fun _ _ h => ins_of h)
    obtain ⟨l, _, e5, w5⟩ := h5.str_inv Tryd.underlying9
    obtain ⟨f4, hf4, ht4, ho4⟩ : ∃ f, fs[4]? = some f ∧ f.type = 24 ∧ (cs.drop f.offset).take (Tryd.prog.cellsOf f.type) = (cs.drop 4).take 1 := by
      rw [Tryd.underlying26] at ht
      cases ht
      exact ⟨_, rfl, rfl, rfl⟩
    obtain ⟨bs, A4, c4, rows, e4, n4, m4, hr, h6, r4, hb⟩ := (ih 4 f4 d4 hf4 hd4).2 ht4
    rw [ho4] at e4
    have hl6 : cs.length = 6 := hc'.trans (by kernel_rfl)
    refine ⟨.mk x0 x1 lits ins bs l, ?_⟩
    rw [list_of6 hl6 (one_of_take e0) (one_of_take e1) (one_of_take e2) (one_of_take e3) (one_of_take e4) (one_of_take e5)]
    exact .mk x0 x1 lits ins bs l A2 A3 A4 c2 c3 c4 rows (i64_of w0) (i64_of w1) w5 k2 k3 n2 m2 n3 m3 n4 m4 r2 r3 r4 hr h6 hb
end Go.Proofs.YtefloadjolpgbaaDoor

namespace Go.Proofs.YtefloadjolpgbaaDoor
open Go.RowKit Go.ChangeShapes Go.WideShapes Go.Deep

theorem code_open {H : Type} {enc : TypeId × Value → H} {w : World} {base : Nat} {spare : Nat → Bool} {held : Bool} {cs : Array Value} {d : DataW H} {p : List MemPlace}
    (h : DataW.Trod enc Tryd.prog w base spare held 26 (.agg cs) d p) : ∃ c, CodeC w c cs.toList := by
  obtain ⟨m, hm⟩ := h
  have hS : closedTys Tryd.prog [26, 24, 22, 23, 45, 33, 3, 9] = true := by kernel_rfl
  obtain ⟨dt, hd⟩ := open_dt hS m 26 cs.toList _ (by simp) hm
  exact (code_of_at hd).1 rfl
end Go.Proofs.YtefloadjolpgbaaDoor
