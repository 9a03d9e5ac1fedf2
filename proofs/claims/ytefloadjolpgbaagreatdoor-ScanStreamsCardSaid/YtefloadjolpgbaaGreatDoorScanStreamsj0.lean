/- Parts of the proof of ScanStreams, joined: Base Str Row NmP NmW ScR NmX NmB NmK. -/
import Derived.Test.YtefloadjolpgbaaGreatDoorProg
import Derived.Below
import Derived.WalkKit
import Derived.KernelRfl
import Derived.Lib.Hide
import Derived.Deep.Draws
import Derived.Deep.AppendLies
import Derived.Maps.AppendAt
import Derived.RegionTactic
import Derived.OwnWalk
import Derived.Lib.ConvBytes
import Derived.Laws.BytesArg
import Derived.WalkSpells
import Derived.Lib.SlBytesConst
import Derived.Test.YtefloadjolpgbaaGreatDoorRows
import Derived.ProofKit
import Derived.OpenShut
import Derived.ShutString
import Derived.ChangeOld
import Derived.Outline
import Derived.Test.YtefloadjolpgbaaGreatDoorShelf
import Derived.Lib.OthersKept
import Derived.Laws.RangeAny
import Derived.Shelf.Strings.SlTrimAscii
namespace Go.Proofs.YtefloadjolpgbaaGreatDoor
open Go.RowKit

/-! ### what may have turned -/

/-- Only blocks of F, and new ones, have turned. -/
structure Mod (F : Nat → Prop) (w w' : World) : Prop where
  os : w'.os = w.os
  tape : w'.tape = w.tape
  output : w'.output = w.output
  size : w.heap.size ≤ w'.heap.size
  block : ∀ k, k < w.heap.size → ¬ F k → w'.heap[k]? = w.heap[k]?

/-- No block of old has turned. -/
def Nil : Nat → Prop := fun _ => False

theorem Mod.refl (F : Nat → Prop) (w : World) : Mod F w w := ⟨rfl, rfl, rfl, Nat.le_refl _, fun _ _ _ => rfl⟩
theorem Mod.trans' {F G H : Nat → Prop} {a b c : World} (h : Mod F a b) (k : Mod G b c) (hF : ∀ i, i < a.heap.size → F i → H i) (hG : ∀ i, i < a.heap.size → G i → H i) : Mod H a c :=
  ⟨k.os.trans h.os, k.tape.trans h.tape, k.output.trans h.output, Nat.le_trans h.size k.size, fun i hi hn =>
    (k.block i (Nat.lt_of_lt_of_le hi h.size) (fun hg => hn (hG i hi hg))).trans (h.block i hi (fun hf => hn (hF i hi hf)))⟩
theorem Mod.trans {F : Nat → Prop} {a b c : World} (h : Mod F a b) (k : Mod F b c) : Mod F a c := h.trans' k (fun _ _ h => h) (fun _ _ h => h)
theorem Mod.mono {F G : Nat → Prop} {a b : World} (h : Mod F a b) (hF : ∀ i, i < a.heap.size → F i → G i) : Mod G a b :=
  ⟨h.os, h.tape, h.output, h.size, fun i hi hn => h.block i hi (fun hf => hn (hF i hi hf))⟩
theorem Mod.any {F : Nat → Prop} {a b : World} (h : Mod Nil a b) : Mod F a b := h.mono fun _ _ h => h.elim
theorem Mod.of_below {F : Nat → Prop} {w w' : World} (h : Below w.heap.size w w') : Mod F w w' := ⟨h.os, h.tape, h.output, h.size, fun i hi _ => h.block i hi⟩
theorem Mod.below {w w' : World} (h : Mod Nil w w') : Below w.heap.size w w' := ⟨h.os, h.tape, h.output, h.size, fun i hi => h.block i hi id⟩
theorem Mod.below' {B : Nat} {w w' : World} (h : Mod (fun k => B ≤ k) w w') (hB : B ≤ w.heap.size) : Below B w w' :=
  ⟨h.os, h.tape, h.output, h.size, fun i hi => h.block i (by omega) (by omega)⟩
theorem Mod.of_grown {w w' : World} {row : Option Nat} (h : w.grownBy w' row) : Mod (fun k => row = some k) w w' :=
  ⟨h.os, h.tape, h.output, h.size, fun i hi hn => h.block i hi (fun e => hn e.symm)⟩
theorem Mod.alloc {F : Nat → Prop} {a w : World} (h : Mod F a w) (o : Obj) : Mod F a (w.alloc o) :=
  ⟨h.os, h.tape, h.output, Nat.le_trans h.size (by simp), fun i hi hn => (Below.heap_alloc w o i (Nat.lt_of_lt_of_le hi h.size)).trans (h.block i hi hn)⟩
theorem Mod.set {F : Nat → Prop} {a w : World} (h : Mod F a w) {p : Addr} (hp : F p.block ∨ a.heap.size ≤ p.block) (u : Value) : Mod F a (w.setCell p u) :=
  ⟨h.os, h.tape, h.output, by simpa [World.setCell] using h.size, fun i hi hn => (Below.heap_setCell w p u i (by
    rintro rfl
    rcases hp with hp | hp
    · exact hn hp
    · omega)).trans (h.block i hi hn)⟩
theorem Mod.drew {F : Nat → Prop} {a w : World} (h : Mod F a w) : Mod F a w.drew := ⟨h.os, h.tape, h.output, h.size, h.block⟩
theorem Mod.drewN {F : Nat → Prop} {a w : World} (h : Mod F a w) (n : Nat) : Mod F a (w.drewN n) := ⟨h.os, h.tape, h.output, h.size, h.block⟩
theorem Mod.cell {F : Nat → Prop} {w w' : World} (h : Mod F w w') {p : Addr} (hp : p.block < w.heap.size) (hn : ¬ F p.block) : w'.cell? p = w.cell? p := World.cell?_of_block (h.block _ hp hn)
theorem Mod.frozen {F : Nat → Prop} {w w' : World} (h : Mod F w w') {p : Addr} (hp : p.block < w.heap.size) (hn : ¬ F p.block) : w'.frozen? p = w.frozen? p := World.frozen?_of_block (h.block _ hp hn)

theorem block_of_add (a : Addr) (n : Nat) : (a.add n).block = a.block := by unfold Addr.add; split <;> rfl
theorem add_of_add (a : Addr) (i j : Nat) : (a.add i).add j = a.add (i + j) := by
  unfold Addr.add
  by_cases hi : i = 0 <;> by_cases hj : j = 0 <;> simp [hi, hj, Nat.add_assoc]
theorem add_zero (a : Addr) : a.add 0 = a := by simp [Addr.add]

/-! ### a slice that reads as a list of octets -/

/-- The value of an octet. -/
def bv (u : UInt8) : Value := .int .u8 (u.toNat : Int)

/-- The slice at A, of blocks in S, reads as the values xs, one a cell. -/
def Rd (S : Nat → Prop) (w : World) (A : Option Addr) (xs : List Value) : Prop :=
  0 < xs.length → ∃ ad, A = some ad ∧ S ad.block ∧ ad.block < w.heap.size ∧ ∀ j u, xs[j]? = some u → w.cell? (ad.add j) = some u

def All : Nat → Prop := fun _ => True

section
variable {S S' F : Nat → Prop} {w w' : World} {A : Option Addr} {xs : List Value}
theorem Rd.nil (S : Nat → Prop) (w : World) (A : Option Addr) : Rd S w A [] := fun h => absurd h (by simp)
theorem Rd.keep (h : Rd S w A xs) (hm : Mod F w w') (hS : ∀ b, S b → ¬ F b) : Rd S w' A xs := fun hn => by
  obtain ⟨ad, e, hs, hb, hc⟩ := h hn
  exact ⟨ad, e, hs, Nat.lt_of_lt_of_le hb hm.size, fun j u hu => (hm.cell (by rw [block_of_add]; exact hb) (by rw [block_of_add]; exact hS _ hs)).trans (hc j u hu)⟩
theorem Rd.keep0 (h : Rd S w A xs) (hm : Mod Nil w w') : Rd S w' A xs := h.keep hm fun _ _ => id
theorem Rd.mono (h : Rd S w A xs) (hS : ∀ b, b < w.heap.size → S b → S' b) : Rd S' w A xs := fun hn => by
  obtain ⟨ad, e, hs, hb, hc⟩ := h hn
  exact ⟨ad, e, hS _ hb hs, hb, hc⟩
theorem Rd.at_ (h : Rd S w A xs) {k : Nat} {u : Value} (hk : xs[k]? = some u) : ∃ ad, A = some ad ∧ S ad.block ∧ ad.block < w.heap.size ∧ w.cell? (ad.add k) = some u := by
  have hl : k < xs.length := (List.getElem?_eq_some_iff.1 hk).1
  obtain ⟨ad, e, hs, hb, hc⟩ := h (by omega)
  exact ⟨ad, e, hs, hb, hc k u hk⟩
/-- 's[k:]' -/
theorem Rd.cut (h : Rd S w A xs) {k cap : Nat} (hk : k ≤ xs.length) (hc : xs.length ≤ cap) : Rd S w (if cap = k then A else A.map (·.add k)) (xs.drop k) := fun hn => by
  rw [List.length_drop] at hn
  obtain ⟨ad, rfl, hs, hb, hcell⟩ := h (by omega)
  rw [if_neg (by omega)]
  refine ⟨ad.add k, rfl, by rw [block_of_add]; exact hs, by rw [block_of_add]; exact hb, fun j u hu => ?_⟩
  rw [add_of_add]
  exact hcell _ u (by rw [← hu, List.getElem?_drop])
/-- 's[:k]' -/
theorem Rd.take (h : Rd S w A xs) (k : Nat) : Rd S w A (xs.take k) := fun hn => by
  rw [List.length_take] at hn
  obtain ⟨ad, rfl, hs, hb, hcell⟩ := h (by omega)
  refine ⟨ad, rfl, hs, hb, fun j u hu => hcell j u ?_⟩
  rw [List.getElem?_take] at hu
  split at hu
  · exact hu
  · cases hu
theorem Rd.drop {ad : Addr} (h : Rd S w (some ad) xs) (k : Nat) : Rd S w (some (ad.add k)) (xs.drop k) := fun hn => by
  rw [List.length_drop] at hn
  obtain ⟨ad', h0, hs, hb, hcell⟩ := h (by omega)
  injection h0 with h0
  subst h0
  refine ⟨ad.add k, rfl, by rw [block_of_add]; exact hs, by rw [block_of_add]; exact hb, fun j u hu => ?_⟩
  rw [add_of_add]
  exact hcell _ u (by rw [← hu, List.getElem?_drop])
/-- One cell in a new block. -/
theorem Rd.cells1 (w : World) (u : Value) (t : TypeId) : Rd All (w.alloc (.cells #[u] t)) (some ⟨w.heap.size, 0, none⟩) [u] := fun _ =>
  ⟨_, rfl, trivial, by simp, cell_one_new w u t⟩
theorem Rd.of_own {base : Nat} {e : TypeId} {n c : Nat} (h : w.ownsRow base e 1 (.slice A n c) n xs) : Rd (fun b => base ≤ b) w A xs := fun hn => by
  have hl := h.1
  obtain ⟨g, cap, hv, hb, hlt⟩ := h.form (by omega)
  have hA : A = some ⟨g, 0, none⟩ := by injection hv
  subst hA
  exact ⟨_, rfl, hb, hlt, h.cells (g := g) rfl⟩
end

/-- A slice's value, whatever owns it. -/
theorem own_slice {w : World} {base : Nat} {e : TypeId} {size : Nat} {v : Value} {n : Nat} {xs : List Value} (h : w.ownsRow base e size v n xs) : ∃ A c, v = .slice A n c ∧ n ≤ c ∧ c ≤ maxLen := by
  rcases h.2 with ⟨rfl, rfl⟩ | ⟨g, cap, cur, rfl, _, _, h1, h2, _⟩
  · exact ⟨_, _, rfl, Nat.le_refl _, by simp [maxLen]⟩
  · exact ⟨_, _, rfl, h1, h2⟩

theorem own_keep {F : Nat → Prop} {w w' : World} {base : Nat} {e : TypeId} {size : Nat} {v : Value} {n : Nat} {xs : List Value} (h : w.ownsRow base e size v n xs) (hm : Mod F w w') (hn : ∀ k, v.ownBlock = some k → ¬ F k) : w'.ownsRow base e size v n xs := by
  refine ⟨h.1, ?_⟩
  rcases h.2 with h2 | ⟨g, cap, cur, rfl, hb, hg, rest⟩
  · exact .inl h2
  · exact .inr ⟨g, cap, cur, rfl, hb, (hm.block g (Array.getElem?_eq_some_iff.1 hg).1 (hn g rfl)).trans hg, rest⟩

theorem own_base {w : World} {base base' : Nat} {e : TypeId} {size : Nat} {v : Value} {n : Nat} {xs : List Value} (h : w.ownsRow base e size v n xs) (hb : base' ≤ base) : w.ownsRow base' e size v n xs := by
  refine ⟨h.1, ?_⟩
  rcases h.2 with h2 | ⟨g, cap, cur, rfl, hb', rest⟩
  · exact .inl h2
  · exact .inr ⟨g, cap, cur, rfl, by omega, rest⟩

/-! ### a block that is known whole -/
def Blk (w : World) (g : Nat) (t : TypeId) (cs : Array Value) : Prop := w.heap[g]? = some (.cells cs t (0, 0))
section
variable {F : Nat → Prop} {w w' : World} {g : Nat} {t : TypeId} {cs : Array Value}
theorem Blk.lt (h : Blk w g t cs) : g < w.heap.size := (Array.getElem?_eq_some_iff.1 h).1
theorem Blk.cell (h : Blk w g t cs) (i : Nat) : w.cell? ⟨g, i, none⟩ = cs[i]? := cell_of_row w g i cs t (0, 0) h
theorem Blk.frozen (h : Blk w g t cs) (i : Nat) : w.frozen? ⟨g, i, none⟩ = false := by
  unfold Blk at h
  simp [World.frozen?, h]
theorem Blk.new (w : World) (t : TypeId) (cs : Array Value) : Blk (w.alloc (.cells cs t)) w.heap.size t cs := heap_alloc_new w _
theorem Blk.drew (h : Blk w g t cs) : Blk w.drew g t cs := h
theorem Blk.drewN (h : Blk w g t cs) (n : Nat) : Blk (w.drewN n) g t cs := h
theorem Blk.alloc (h : Blk w g t cs) (o : Obj) : Blk (w.alloc o) g t cs := (Below.heap_alloc w o g h.lt).trans h
theorem Blk.set_ (h : Blk w g t cs) (i : Nat) (u : Value) : Blk (w.setCell ⟨g, i, none⟩ u) g t (cs.setIfInBounds i u) := by
  unfold Blk at h ⊢
  simp [World.setCell, Array.getElem?_modify, h]
theorem Blk.far (h : Blk w g t cs) {p : Addr} (hp : g ≠ p.block) (u : Value) : Blk (w.setCell p u) g t cs := (Below.heap_setCell w p u g hp).trans h
theorem Blk.keep (h : Blk w g t cs) (hm : Mod F w w') (hn : ¬ F g) : Blk w' g t cs := (hm.block g h.lt hn).trans h
theorem Blk.ne_ {g' : Nat} {t' : TypeId} {cs' : Array Value} (h : Blk w g t cs) (h' : Blk w g' t' cs') (hne : t ≠ t') : g ≠ g' := by
  rintro rfl
  unfold Blk at h h'
  rw [h] at h'
  injection h' with h'
  injection h' with _ ht
  exact hne ht
theorem own_blk_ne {base : Nat} {e : TypeId} {size n : Nat} {v : Value} {xs : List Value} (h : w.ownsRow base e size v n xs) (hg : Blk w g t cs) (hne : e ≠ t) : v.ownBlock ≠ some g := by
  rcases h.2 with ⟨rfl, _⟩ | ⟨g', cap, cur, rfl, _, hh, _⟩
  · simp [Value.ownBlock]
  · intro he
    have : g' = g := by simpa [Value.ownBlock] using he
    subst this
    exact Blk.ne_ (t := e) hh hg hne rfl
end

/-! ### append onto a row of the call's own -/
section
variable {P : Program} (w : World)
theorem run_append_of_nil (base : Nat) (t ty e : TypeId) (i : TypeInfo) (size : Nat) (ht : P.underlying t = some (.slice e)) (hi : P.info? e = some i)
    (v : Value) (n : Nat) (xs : List Value) (hown : w.ownsRow base e size v n xs) (c : Nat) : (Builtin.append_ #[t, t] ty #[v, .slice none 0 c]).run P w = .ok v w := by
  rcases hown.2 with ⟨rfl, rfl⟩ | ⟨g, cap, cur, rfl, _, _, hnc, _⟩
  · simp [Builtin.append_, run_underlying ht, sizeOf, typeInfo, hi, Builtin.lenOf, Builtin.firstCells]
  · simp [Builtin.append_, run_underlying ht, sizeOf, typeInfo, hi, Builtin.lenOf, Builtin.firstCells, hnc, storeCells]

/-- append, one cell an element: whatever is appended (nil, empty, a cut). -/
theorem run_append1 (base : Nat) (t ty e : TypeId) (i : TypeInfo) (z : Value) (bytes : Nat) (ht : P.underlying t = some (.slice e)) (hi : P.info? e = some i) (hz : i.zero = some z)
    (hsize : i.size = 1) (hby : i.bytes = bytes) (hzs : z.cells.size = 1)
    (v : Value) (n : Nat) (xs : List Value) (hown : w.ownsRow base e 1 v n xs)
    (S : Nat → Prop) (A : Option Addr) (m c : Nat) (news : List Value) (hl : news.length = m) (hr : Rd S w A news) (h1 : ∀ u ∈ news, u.oneCell' = true)
    (hbytes : (n + m) * bytes ≤ 140737488355328) (h63 : n + m ≤ maxLen) (hbase : base ≤ w.heap.size) :
    ∃ v' w', (Builtin.append_ #[t, t] ty #[v, .slice A m c]).run P w = .ok v' w' ∧ w'.ownsRow base e 1 v' (n + m) (xs ++ news) ∧ w.grownBy w' v.ownBlock ∧
      (v'.ownBlock = v.ownBlock ∨ v'.ownBlock = some w.heap.size) := by
  rcases A with _ | ad
  · have hm : m = 0 := by
      rcases Nat.eq_zero_or_pos m with h0 | h0
      · exact h0
      · obtain ⟨ad, h, _⟩ := hr (by omega)
        cases h
    subst hm
    have hn : news = [] := List.eq_nil_of_length_eq_zero hl
    subst hn
    exact ⟨v, w, run_append_of_nil w base t ty e i 1 ht hi v n xs hown c, by simpa using hown, World.grownBy.refl w _, .inl rfl⟩
  · have hcells : ∀ j u, news[j]? = some u → w.cell? (ad.add j) = some u := by
      intro j u hu
      have hlt := (List.getElem?_eq_some_iff.1 hu).1
      obtain ⟨ad', h, _, _, hc⟩ := hr (by omega)
      injection h with h
      subst h
      exact hc j u hu
    obtain ⟨v', w', hrun, h2, h3, _, h5⟩ := run_append_own_at (P := P) w base t ty e i z 1 bytes ht hi hz hsize hby hzs (by omega) v n xs hown ad m c news (by simpa using hl) hcells h1 h63 hbytes hbase
    exact ⟨v', w', hrun, h2, h3, h5⟩

/-- append of one element or more at one cell an element, the new value written out. -/
theorem run_append_lies1 (base : Nat) (t ty e : TypeId) (i : TypeInfo) (z : Value) (bytes : Nat) (ht : P.underlying t = some (.slice e)) (hi : P.info? e = some i) (hz : i.zero = some z)
    (hsize : i.size = 1) (hby : i.bytes = bytes) (hzs : z.cells.size = 1)
    (v : Value) (n : Nat) (xs : List Value) (hown : w.ownsRow base e 1 v n xs)
    (S : Nat → Prop) (A : Option Addr) (m c : Nat) (news : List Value) (hl : news.length = m) (hr : Rd S w A news) (h1 : ∀ u ∈ news, u.oneCell' = true)
    (hbytes : (n + m) * bytes ≤ 140737488355328) (h63 : n + m ≤ maxLen) (hbase : base ≤ w.heap.size) :
    ∃ A' c' w', (Builtin.append_ #[t, t] ty #[v, .slice A m c]).run P w = .ok (.slice A' (n + m) c') w' ∧ w'.ownsRow base e 1 (.slice A' (n + m) c') (n + m) (xs ++ news) ∧ Mod (fun k => v.ownBlock = some k) w w' ∧
      (∀ k, (Value.slice A' (n + m) c').ownBlock = some k → v.ownBlock = some k ∨ w.heap.size ≤ k) := by
  obtain ⟨v', w', hrun, h2, h3, h4⟩ := run_append1 (P := P) w base t ty e i z bytes ht hi hz hsize hby hzs v n xs hown S A m c news hl hr h1 hbytes h63 hbase
  obtain ⟨A', c', rfl, _, _⟩ := own_slice h2
  refine ⟨A', c', w', hrun, h2, Mod.of_grown h3, fun k hk => ?_⟩
  rcases h4 with h4 | h4
  · exact .inl (h4 ▸ hk)
  · rw [h4] at hk
    injection hk with hk
    exact .inr (by omega)

theorem step_append1 {ops : Array Oper} {o : Oper} {a : Act} {K : Act → World → Prop} {Q : Exit → Act → World → Prop} {E : Prop} (hgd : o.guard = none) (s x : Operand) (t : TypeId)
    (ho : o.op = .call { callee := .builtin .append, args := #[s, x], argTypes := #[t, t] })
    (base : Nat) (e : TypeId) (i : TypeInfo) (z : Value) (bytes : Nat) (ht : P.underlying t = some (.slice e)) (hi : P.info? e = some i) (hz : i.zero = some z)
    (hsize : i.size = 1) (hby : i.bytes = bytes) (hzs : z.cells.size = 1)
    (v : Value) (n : Nat) (xs : List Value) (hs : a.eval s = v) (hown : w.ownsRow base e 1 v n xs)
    (S : Nat → Prop) (A : Option Addr) (m c : Nat) (news : List Value) (hx : a.eval x = .slice A m c) (hl : news.length = m) (hr : Rd S w A news) (h1 : ∀ u ∈ news, u.oneCell' = true)
    (hbytes : (n + m) * bytes ≤ 140737488355328) (h63 : n + m ≤ maxLen) (hbase : base ≤ w.heap.size)
    (h : ∀ A' c' w', w'.ownsRow base e 1 (.slice A' (n + m) c') (n + m) (xs ++ news) → Mod (fun k => v.ownBlock = some k) w w' → (∀ k, (Value.slice A' (n + m) c').ownBlock = some k → v.ownBlock = some k ∨ w.heap.size ≤ k) → K (a.put o.dst (.slice A' (n + m) c')) w') :
    if Region.wanted o (yielded ops a.tmps) = true then Oper.wp P o a w K Q else E := by
  have hw : Region.wanted o (yielded ops a.tmps) = true := by simp [Region.wanted, hgd]
  rw [if_pos hw]
  obtain ⟨A', c', w', hrun, h2, h3, h4⟩ := run_append_lies1 (P := P) w base t o.type e i z bytes ht hi hz hsize hby hzs v n xs hown S A m c news hl hr h1 hbytes h63 hbase
  unfold Oper.wp execOp
  simp only [ho, resolve, invoke, builtin, Sem.run_bind, Sem.run_pure, Result.andThen_ok, List.map_toArray, List.map_cons, List.map_nil, hs, hx, hrun]
  exact h A' c' w' h2 h3 h4

theorem wpList_append1' {ops : Array Oper} {rest : List Oper} {o : Oper} {a : Act} {Q : Exit → Act → World → Prop} (hgd : o.guard = none) (s x : Operand) (t : TypeId)
    (ho : o.op = .call { callee := .builtin .append, args := #[s, x], argTypes := #[t, t] })
    (base : Nat) (e : TypeId) (i : TypeInfo) (z : Value) (bytes : Nat) (ht : P.underlying t = some (.slice e)) (hi : P.info? e = some i) (hz : i.zero = some z)
    (hsize : i.size = 1) (hby : i.bytes = bytes) (hzs : z.cells.size = 1)
    (v : Value) (n : Nat) (xs : List Value) (hs : a.eval s = v) (hown : w.ownsRow base e 1 v n xs)
    (S : Nat → Prop) (A : Option Addr) (m c : Nat) (news : List Value) (hx : a.eval x = .slice A m c) (hl : news.length = m) (hr : Rd S w A news) (h1 : ∀ u ∈ news, u.oneCell' = true)
    (hbytes : (n + m) * bytes ≤ 140737488355328) (h63 : n + m ≤ maxLen) (hbase : base ≤ w.heap.size)
    (h : ∀ A' c' w', w'.ownsRow base e 1 (.slice A' (n + m) c') (n + m) (xs ++ news) → Mod (fun k => v.ownBlock = some k) w w' → (∀ k, (Value.slice A' (n + m) c').ownBlock = some k → v.ownBlock = some k ∨ w.heap.size ≤ k) → wpList P ops Q rest (a.put o.dst (.slice A' (n + m) c')) w') : wpList P ops Q (o :: rest) a w := by
  refine wpList_plain hgd fun K hK => ?_
  obtain ⟨A', c', w', hrun, h2, h3, h4⟩ := run_append_lies1 (P := P) w base t o.type e i z bytes ht hi hz hsize hby hzs v n xs hown S A m c news hl hr h1 hbytes h63 hbase
  unfold Oper.wp execOp
  simp only [ho, resolve, invoke, builtin, Sem.run_bind, Sem.run_pure, Result.andThen_ok, List.map_toArray, List.map_cons, List.map_nil, hs, hx, hrun]
  exact hK _ _ (h A' c' w' h2 h3 h4)

theorem wpList_append1 {ops : Array Oper} {rest : List Oper} {o : Oper} {a : Act} {Q : Exit → Act → World → Prop} (hgd : o.guard = none) (s x : Operand) (t : TypeId)
    (ho : o.op = .call { callee := .builtin .append, args := #[s, x], argTypes := #[t, t] })
    (base : Nat) (e : TypeId) (i : TypeInfo) (z : Value) (bytes : Nat) (ht : P.underlying t = some (.slice e)) (hi : P.info? e = some i) (hz : i.zero = some z)
    (hsize : i.size = 1) (hby : i.bytes = bytes) (hzs : z.cells.size = 1)
    (v : Value) (n : Nat) (xs : List Value) (hs : a.eval s = v) (hown : w.ownsRow base e 1 v n xs)
    (S : Nat → Prop) (A : Option Addr) (m c : Nat) (news : List Value) (hx : a.eval x = .slice A m c) (hl : news.length = m) (hr : Rd S w A news) (h1 : ∀ u ∈ news, u.oneCell' = true)
    (hbytes : (n + m) * bytes ≤ 140737488355328) (h63 : n + m ≤ maxLen) (hbase : base ≤ w.heap.size)
    (h : ∀ v' w', w'.ownsRow base e 1 v' (n + m) (xs ++ news) → w.grownBy w' v.ownBlock → (v'.ownBlock = v.ownBlock ∨ v'.ownBlock = some w.heap.size) → wpList P ops Q rest (a.put o.dst v') w') : wpList P ops Q (o :: rest) a w := by
  refine wpList_plain hgd fun K hK => ?_
  obtain ⟨v', w', hrun, h2, h3, h4⟩ := run_append1 (P := P) w base t o.type e i z bytes ht hi hz hsize hby hzs v n xs hown S A m c news hl hr h1 hbytes h63 hbase
  unfold Oper.wp execOp
  simp only [ho, resolve, invoke, builtin, Sem.run_bind, Sem.run_pure, Result.andThen_ok, List.map_toArray, List.map_cons, List.map_nil, hs, hx, hrun]
  exact hK _ _ (h v' w' h2 h3 h4)
end

/-- A slice's value that reads as xs, a cell each. -/
def IsSl (n : Nat) (xs : List Value) (v : Value) (w : World) : Prop := ∃ A c, v = .slice A n c ∧ n ≤ c ∧ c ≤ maxLen ∧ xs.length = n ∧ Rd All w A xs
theorem IsSl.keep0 {n : Nat} {xs : List Value} {v : Value} {w w' : World} (h : IsSl n xs v w) (hm : Mod Nil w w') : IsSl n xs v w' := by
  obtain ⟨A, c, h1, h2, h3, h4, h5⟩ := h
  exact ⟨A, c, h1, h2, h3, h4, h5.keep0 hm⟩
theorem IsSl.of_own {base n : Nat} {e : TypeId} {xs : List Value} {v : Value} {w : World} (h : w.ownsRow base e 1 v n xs) : IsSl n xs v w := by
  obtain ⟨A, c, rfl, h1, h2⟩ := own_slice h
  exact ⟨A, c, rfl, h1, h2, by simpa using h.1, (Rd.of_own h).mono fun _ _ _ => trivial⟩

theorem bv_one (l : List UInt8) : ∀ u ∈ l.map bv, u.oneCell' = true := by
  intro u hu
  obtain ⟨_, _, rfl⟩ := List.mem_map.1 hu
  rfl

theorem ret_int {k : IntKind} {a b : Int} (h : a = b) : Ending.returned (.int k a) = .returned (.int k b) := by rw [h]
theorem ret_bool {a b : Bool} (h : a = b) : Ending.returned (.bool a) = .returned (.bool b) := by rw [h]

theorem u8_info : (Tryz.prog.info? 5).map (fun i => (i.zero, i.size, i.bytes)) = some (some (.int .u8 0), 1, 1) := by kernel_rfl

end Go.Proofs.YtefloadjolpgbaaGreatDoor

namespace Go.Proofs.YtefloadjolpgbaaGreatDoor
open Go.RowKit

/-- The string of octets. -/
def str (l : List UInt8) : ByteArray := ⟨l.toArray⟩
theorem str_list (l : List UInt8) : (str l).data.toList = l := rfl
theorem str_size (l : List UInt8) : (str l).size = l.length := by simp [str, ByteArray.size]
theorem str_inj {a b : List UInt8} (h : str a = str b) : a = b := by
  have := congrArg (fun x : ByteArray => x.data.toList) h
  exact this
theorem str_eta (s : ByteArray) : str s.data.toList = s := by
  unfold str
  cases s
  rfl
theorem str_append (a b : List UInt8) : str a ++ str b = str (a ++ b) := by
  apply ByteArray.ext
  simp [str]

theorem conv_bytes {S : Nat → Prop} {w : World} {A : Option Addr} {l : List UInt8} {n : Nat} (h : Rd S w A (l.map bv)) (hn : l.length = n) (c : Nat) :
    (convert 42 9 (.slice A n c)).run Tryz.prog w = .ok (.string (str l)) w := by
  subst hn
  rw [run_convert_bytes_string w 42 9 5 A l.length c Tryz.underlying42 Tryz.underlying5 Tryz.underlying9]
  rcases A with _ | ad
  · have hl : l = [] := by
      rcases l with _ | ⟨x, l⟩
      · rfl
      · obtain ⟨_, h0, _⟩ := h (by simp)
        cases h0
    subst hl
    simp [Conv.bytesToString]
    rfl
  · have hc : (loadCells ad l.length).run Tryz.prog w = .ok ((l.map fun u => (u.toNat : Int)).map (Value.int .u8)).toArray w := by
      have := run_loadCells_list (P := Tryz.prog) w ad (l.map bv) (fun j v hj => by
        obtain ⟨ad', h0, _, _, hc⟩ := h (by have := (List.getElem?_eq_some_iff.1 hj).1; omega)
        injection h0 with h0
        subst h0
        exact hc j v hj)
      rw [List.length_map] at this
      rw [this, List.map_map]
      rfl
    rw [run_bytesToString w ad l.length c _ hc, foldl_push_bytes]
    have : (List.map (fun n : Int => UInt8.ofNat n.toNat) (List.map (fun u : UInt8 => (u.toNat : Int)) l)) = l := by
      rw [List.map_map]
      conv => rhs; rw [← List.map_id l]
      apply List.map_congr_left
      intro u _
      simp
    rw [this]
    simp [str, ByteArray.empty, ByteArray.emptyWithCapacity]
    rfl

theorem conv_string (w : World) (s : ByteArray) :
    (convert 9 42 (.string s)).run Tryz.prog w = .ok (.slice (some ⟨w.heap.size, 0, none⟩) s.size (grownCap w s.size 0 5)) (Lib.bytesWorld w 5 s) :=
  Lib.run_convert_string_bytes w _ _ _ s Tryz.underlying9 Tryz.underlying42 Tryz.underlying5

theorem Mod.bytes {F : Nat → Prop} {a w : World} (h : Mod F a w) (e : TypeId) (s : ByteArray) : Mod F a (Lib.bytesWorld w e s) :=
  ⟨h.os, h.tape, h.output, by rw [Lib.bytesWorld_size]; have := h.size; omega, fun i hi hn => (Lib.bytesWorld_at_old w e s i (Nat.lt_of_lt_of_le hi h.size)).trans (h.block i hi hn)⟩

theorem Rd.bytes (w : World) (e : TypeId) (s : ByteArray) : Rd (fun b => w.heap.size ≤ b) (Lib.bytesWorld w e s) (some ⟨w.heap.size, 0, none⟩) (s.data.toList.map bv) := fun _ => by
  refine ⟨_, rfl, Nat.le_refl _, by rw [Lib.bytesWorld_size]; show w.heap.size < _; omega, fun j u hu => ?_⟩
  have hlen : s.data.toList.length = s.size := Array.length_toList
  have hj : j < s.size := by
    have := (List.getElem?_eq_some_iff.1 hu).1
    rw [List.length_map] at this
    omega
  have e1 : (⟨w.heap.size, 0, none⟩ : Addr).add j = ⟨w.heap.size, j, none⟩ := by unfold Addr.add; split <;> simp_all
  rw [e1, Lib.bytesWorld_cell w e s j hj, ← hu]
  simp [bv, List.getD, hj]

end Go.Proofs.YtefloadjolpgbaaGreatDoor

namespace Go.Proofs.YtefloadjolpgbaaGreatDoor
open Go.RowKit Go.ChangeShapes Go.WideShapes Go.ChangeAt
open Go.ChangeMaps (open_string shut_string)

theorem own_ : ownKnob Tryz.prog.godebug = none := by kernel_rfl
theorem laidOut_ : laidOutB Tryz.prog = true := by kernel_rfl

theorem wf_u8 {x : Int} (h : (Lit.int .u8 x).wf = true) : 0 ≤ x ∧ x < 256 := by
  have := bounds_u8 h
  omega

/-- An argument of octets. -/
theorem open_octets {H : Type} {enc : TypeId × Value → H} {W : World} {a : Option Addr} {len cap : Nat} {d : DataW H} {p : List MemPlace}
    (h : DataW.Trod enc Tryz.prog W 0 (fun _ => true) true 42 (.slice a len cap) d p) :
    ∃ l : List UInt8, l.length = len ∧ len ≤ cap ∧ cap ≤ maxLen ∧ Rd All W a (l.map bv) := by
  obtain ⟨fuel, hf⟩ := h
  rcases open_ints Tryz.underlying42 Tryz.underlying5 (by kernel_rfl) hf with ⟨hcs, _⟩ | ⟨x, l, c, zs, hcs, _, hl, hm, hz, hx, hcell, hwz⟩
  · simp [Value.cells] at hcs
    obtain ⟨rfl, rfl, rfl⟩ := hcs
    exact ⟨[], rfl, Nat.le_refl _, by simp [maxLen], Rd.nil _ _ _⟩
  · simp [Value.cells] at hcs
    obtain ⟨rfl, rfl, rfl⟩ := hcs
    have hz' : zs.length = cap := by simpa using hz
    refine ⟨(zs.take len).map fun n => UInt8.ofNat n.toNat, by rw [List.length_map, List.length_take]; omega, hl, hm, fun hn => ?_⟩
    have hn' : 0 < len := by
      simp only [List.length_map, List.length_take] at hn
      omega
    have hb : x.block < W.heap.size := by
      have h0 := hcell 0 (by omega)
      rw [add_zero] at h0
      exact World.block_lt_of_cell? W x h0
    refine ⟨x, rfl, trivial, hb, fun j u hu => ?_⟩
    have hj : j < len := by
      have := (List.getElem?_eq_some_iff.1 hu).1
      simp only [List.length_map, List.length_take] at this
      omega
    rw [hcell j (by omega), ← hu]
    have hjz : j < zs.length := by omega
    have hw := wf_u8 (hwz zs[j] (List.getElem_mem hjz))
    simp [bv, hj, List.getD, hjz]
    omega

end Go.Proofs.YtefloadjolpgbaaGreatDoor

namespace Go.Proofs.YtefloadjolpgbaaGreatDoor
open Go.RowKit

def smallB (c : UInt8) : Bool := decide (97 ≤ c.toNat) && decide (c.toNat ≤ 122)
def largeB (c : UInt8) : Bool := decide (65 ≤ c.toNat) && decide (c.toNat ≤ 90)
def letB (c : UInt8) : Bool := smallB c || largeB c
def digB (c : UInt8) : Bool := decide (48 ≤ c.toNat) && decide (c.toNat ≤ 57)
def wrdB (c : UInt8) : Bool := letB c || digB c

/-- How many octets are of some, from the beginning on. -/
def runL (p : UInt8 → Bool) : List UInt8 → Nat
  | [] => 0
  | c :: r => if p c then runL p r + 1 else 0
theorem runL_le (p : UInt8 → Bool) : ∀ l : List UInt8, runL p l ≤ l.length
  | [] => Nat.le_refl _
  | c :: r => by
    have := runL_le p r
    rw [runL]
    split <;> simp <;> omega
theorem runL_all (p : UInt8 → Bool) : ∀ (l : List UInt8) (i : Nat) (c : UInt8), i < runL p l → l[i]? = some c → p c = true
  | [], i, c, h, _ => by simp [runL] at h
  | x :: r, i, c, h, hc => by
    rw [runL] at h
    split at h
    · rename_i hx
      cases i with
      | zero => simp at hc; subst hc; exact hx
      | succ i => exact runL_all p r i c (by omega) (by simpa using hc)
    · omega
theorem runL_end (p : UInt8 → Bool) : ∀ (l : List UInt8) (c : UInt8), l[runL p l]? = some c → p c = false
  | [], c, h => by simp at h
  | x :: r, c, h => by
    rw [runL] at h
    split at h
    · exact runL_end p r c (by simpa using h)
    · rename_i hx
      simp at h
      subst h
      simpa using hx
theorem runL_of {p : UInt8 → Bool} {l : List UInt8} {n : Nat} (h1 : ∀ i c, i < n → l[i]? = some c → p c = true) (hn : n ≤ l.length) (h2 : ∀ c, l[n]? = some c → p c = false) : runL p l = n := by
  induction l generalizing n with
  | nil => simp at hn; simp [runL, hn]
  | cons x r ih =>
    cases n with
    | zero =>
      have := h2 x rfl
      rw [runL, if_neg (by simp [this])]
    | succ n =>
      have hx := h1 0 x (by omega) rfl
      rw [runL, if_pos hx, ih (n := n) (fun i c hi hc => h1 (i + 1) c (by omega) (by simpa using hc)) (by simpa using hn) (fun c hc => h2 c (by simpa using hc))]

/-- A word's length, with which a text begins. -/
def wrdL (l : List UInt8) : Nat := match l with
  | [] => 0
  | c :: _ => if letB c then runL wrdB l else 0
theorem wrdL_le (l : List UInt8) : wrdL l ≤ l.length := by
  cases l with
  | nil => exact Nat.le_refl _
  | cons c r =>
    rw [wrdL]
    split
    · exact runL_le _ _
    · omega

def nmIs (l : List UInt8) : Bool := (match l with | [] => false | c :: _ => letB c) && l.all wrdB && decide (l.length ≤ 40)
def nmLower (l : List UInt8) : Bool := nmIs l && (match l with | [] => false | c :: _ => smallB c)
def binL : List UInt8 := [43, 45, 42, 47, 60, 62, 61, 126, 38, 44, 64, 37]
def binB (c : UInt8) : Bool := binL.contains c
def nmBin (l : List UInt8) : Bool := (decide (l.length = 1) || decide (l.length = 2)) && l.all binB

/-- The pieces that a colon ends, without it; what stays. -/
def splitC : List UInt8 → List (List UInt8) × List UInt8
  | [] => ([], [])
  | c :: r => if c = 58 then ([] :: (splitC r).1, (splitC r).2) else match (splitC r).1 with
    | [] => ([], c :: (splitC r).2)
    | p :: ps => ((c :: p) :: ps, (splitC r).2)
def nmKw (l : List UInt8) : Bool := (splitC l).2.isEmpty && decide (1 ≤ (splitC l).1.length) && decide ((splitC l).1.length ≤ 10) && (splitC l).1.all nmLower
def nmKind (l : List UInt8) : Nat := if nmLower l then 1 else if nmBin l then 2 else if nmKw l then 3 else 0

theorem splitC_nocolon : ∀ {a : List UInt8} (_ : ∀ c ∈ a, c ≠ 58), splitC a = ([], a)
  | [], _ => rfl
  | c :: r, h => by
    have ih := splitC_nocolon (a := r) (fun x hx => h x (by simp [hx]))
    rw [splitC, if_neg (h c (by simp)), ih]
theorem splitC_append : ∀ (a : List UInt8) (b : List UInt8), splitC (a ++ 58 :: b) = ((splitC a).1 ++ (splitC a).2 :: (splitC b).1, (splitC b).2)
  | [], b => by simp [splitC]
  | c :: r, b => by
    have ih := splitC_append r b
    rw [List.cons_append, splitC, splitC, ih]
    split
    · simp
    · rcases h : (splitC r).1 with _ | ⟨p, ps⟩
      · simp
      · simp
/-- The pieces put together again. -/
theorem splitC_join : ∀ (l : List UInt8), (splitC l).1.flatMap (· ++ [58]) ++ (splitC l).2 = l
  | [] => rfl
  | c :: r => by
    have ih := splitC_join r
    rw [splitC]
    split
    · rename_i hc
      simp [hc, ih]
    · rcases h : (splitC r).1 with _ | ⟨p, ps⟩
      · rw [h] at ih
        simp at ih
        simp [ih]
      · rw [h] at ih
        simp at ih
        simp [ih]
theorem wrdB_colon : wrdB 58 = false := by decide
theorem binB_colon : binB 58 = false := by decide

theorem nmIs_word {l : List UInt8} (h : nmIs l = true) : l.all wrdB = true := by
  unfold nmIs at h
  simp at h
  simpa using h.1.2
theorem nmLower_word {l : List UInt8} (h : nmLower l = true) : l.all wrdB = true ∧ l ≠ [] ∧ l.length ≤ 40 := by
  unfold nmLower at h
  simp only [Bool.and_eq_true] at h
  refine ⟨nmIs_word h.1, ?_, ?_⟩
  · rintro rfl
    simp at h
  · have := h.1
    unfold nmIs at this
    simp at this
    exact this.2
end Go.Proofs.YtefloadjolpgbaaGreatDoor

namespace Go.Proofs.YtefloadjolpgbaaGreatDoor
open Go.RowKit

theorem u8_lt (c : UInt8) : (c.toNat : Int) < 256 := by have := c.toNat_lt; omega

set_option maxHeartbeats 400000 in
set_option maxRecDepth 100000 in
theorem letter_any (c : UInt8) (w : World) : Calls Tryz.prog 35 #[.int .u8 c.toNat] w fun e w' => e = .returned (.bool (letB c)) ∧ w = w' := by
  have h256 := u8_lt c
  go_enter Tryz.func35, Tryz.ntmps35
  go_wp2
  all_goals
    go_ret
    refine ⟨ret_bool ?_, rfl⟩
    rw [Bool.eq_iff_iff]
    simp [letB, smallB, largeB]
    try omega
set_option maxHeartbeats 400000 in
set_option maxRecDepth 100000 in
theorem digit_any (c : UInt8) (w : World) : Calls Tryz.prog 26 #[.int .u8 c.toNat] w fun e w' => e = .returned (.bool (digB c)) ∧ w = w' := by
  have h256 := u8_lt c
  go_enter Tryz.func26, Tryz.ntmps26
  go_wp2
  all_goals
    go_ret
    refine ⟨ret_bool ?_, rfl⟩
    rw [Bool.eq_iff_iff]
    simp [digB]
    try omega
/-- The same of a rune. -/
def smallR (r : Nat) : Bool := decide (97 ≤ r) && decide (r ≤ 122)
def largeR (r : Nat) : Bool := decide (65 ≤ r) && decide (r ≤ 90)
def digR (r : Nat) : Bool := decide (48 ≤ r) && decide (r ≤ 57)

set_option maxHeartbeats 400000 in
set_option maxRecDepth 100000 in
theorem nmSmall_any (r : Nat) (hr : r ≤ 2147483647) (w : World) : Calls Tryz.prog 37 #[.int .i32 r] w fun e w' => e = .returned (.bool (smallR r)) ∧ w = w' := by
  go_enter Tryz.func37, Tryz.ntmps37
  go_wp2
  all_goals
    go_ret
    refine ⟨ret_bool ?_, rfl⟩
    rw [Bool.eq_iff_iff]
    simp [smallR]
    try omega
set_option maxHeartbeats 400000 in
set_option maxRecDepth 100000 in
theorem nmLarge_any (r : Nat) (hr : r ≤ 2147483647) (w : World) : Calls Tryz.prog 38 #[.int .i32 r] w fun e w' => e = .returned (.bool (largeR r)) ∧ w = w' := by
  go_enter Tryz.func38, Tryz.ntmps38
  go_wp2
  all_goals
    go_ret
    refine ⟨ret_bool ?_, rfl⟩
    rw [Bool.eq_iff_iff]
    simp [largeR]
    try omega
set_option maxHeartbeats 400000 in
set_option maxRecDepth 100000 in
theorem nmDigit_any (r : Nat) (hr : r ≤ 2147483647) (w : World) : Calls Tryz.prog 39 #[.int .i32 r] w fun e w' => e = .returned (.bool (digR r)) ∧ w = w' := by
  go_enter Tryz.func39, Tryz.ntmps39
  go_wp2
  all_goals
    go_ret
    refine ⟨ret_bool ?_, rfl⟩
    rw [Bool.eq_iff_iff]
    simp [digR]
    try omega
end Go.Proofs.YtefloadjolpgbaaGreatDoor

namespace Go.Proofs.YtefloadjolpgbaaGreatDoor
open Go.RowKit

theorem str_get {l : List UInt8} {k : Nat} {c : UInt8} (h : l[k]? = some c) : (str l).data[k]? = some c := by simpa [str] using h
theorem str_getE {l : List UInt8} {k : Nat} {c : UInt8} (h : l[k]? = some c) (hk : k < (str l).size) : (str l)[k]'hk = c := by
  obtain ⟨hl, h1⟩ := List.getElem?_eq_some_iff.1 h
  exact (show l.toArray[k] = l[k] by simp).trans h1
theorem str_toList (l : List UInt8) : (str l).toList = l := by rw [ByteArray.toList_eq, str_list]
theorem str_beq (l m : List UInt8) : ((str l).toList == m) = (l == m) := by rw [str_toList]
theorem str_extract (l : List UInt8) (a b : Nat) : (str l).extract a b = str ((l.drop a).take (b - a)) := by
  apply ByteArray.ext
  simp [str]
def fnv (fn : Nat) : Value := .func (.func fn) #[] #[]
/-- The predicates that run is given. -/
def IsFn (fn : Nat) : Prop := fn = 36 ∨ fn = 26 ∨ fn = 46

set_option maxHeartbeats 1600000 in
set_option maxRecDepth 100000 in
theorem run_any (fn : Nat) (hfn : IsFn fn) (p : UInt8 → Bool) (hp : ∀ (c : UInt8) (w : World), Calls Tryz.prog fn #[.int .u8 c.toNat] w fun e w' => e = .returned (.bool (p c)) ∧ w = w') (l : List UInt8) (hl : l.length ≤ 100000) (w : World) :
    Calls Tryz.prog 27 #[.string (str l), fnv fn] w fun e w' => e = .returned (.int .i64 (runL p l)) ∧ w = w' := by
  have HP := Lib.hid hp
  clear hp
  have hsz := str_size l
  unfold fnv
  go_enter Tryz.func27, Tryz.ntmps27
  go_wp2_with fail
  go_loopw [5] (fun i wr => ∃ (k : Nat), k ≤ runL p l ∧ i = .int .i64 k ∧ w = wr) (fun v _ => l.length - (intOf v).toNat)
  case atStart => exact ⟨0, Nat.zero_le _, rfl, rfl⟩
  case round =>
    obtain ⟨k, hk, rfl, rfl⟩ := hrel
    have hle := runL_le p l
    by_cases hlt : k < l.length
    · obtain ⟨c, hc⟩ : ∃ c, l[k]? = some c := ⟨_, List.getElem?_eq_getElem hlt⟩
      have hg := str_getE hc (by omega)
      have HC := Lib.hid hc
      clear hc
      rcases hb : p c with _ | _
      · have hk' : runL p l = k := by
          rcases Nat.lt_or_eq_of_le hk with h | h
          · have := runL_all p l k c h HC.out
            rw [hb] at this
            cases this
          · exact h.symm
        have HK := Lib.hid hk'
        clear hk'
        rcases hfn with rfl | rfl | rfl
        all_goals
          go_wp2_with fail
          refine (HP.out c _).mono ?_
          rintro r w2 ⟨rfl, rfl⟩
          rw [hb]
          go_wp2_with fail
          go_ret
          exact ⟨ret_int (by have := HK.out; omega), rfl⟩
      · have hk' : k + 1 ≤ runL p l := by
          rcases Nat.lt_or_eq_of_le hk with h | h
          · exact h
          · have := runL_end p l c (by rw [← h]; exact HC.out)
            rw [hb] at this
            cases this
        have HK := Lib.hid hk'
        clear hk'
        rcases hfn with rfl | rfl | rfl
        all_goals
          go_wp2_with fail
          refine (HP.out c _).mono ?_
          rintro r w2 ⟨rfl, rfl⟩
          rw [hb]
          go_wp2_with fail
          refine ⟨⟨k + 1, HK.out, by simp, trivial⟩, ?_⟩
          simp [intOf]
          omega
    · have hk' : runL p l = k := by omega
      have HK := Lib.hid hk'
      clear hk'
      go_wp2_with fail
      go_ret
      exact ⟨ret_int (by have := HK.out; omega), rfl⟩

theorem indexByte_pos (l : List UInt8) (c : UInt8) : (0 ≤ Lib.indexByte l c) ↔ l.contains c = true := by
  induction l with
  | nil => simp [Lib.indexByte]
  | cons b r ih =>
    have := Lib.indexByte_ge r c
    rw [Lib.indexByte]
    by_cases hb : b = c
    · simp [hb]
    · have h1 : (b == c) = false := by simp [hb]
      have h2 : (c == b) = false := by simp [Ne.symm hb]
      rw [h1]
      simp only [Bool.false_eq_true, if_false, List.contains_cons, h2, Bool.false_or]
      rw [← ih]
      split
      · rename_i he
        simp at he
        omega
      · rename_i he
        simp at he
        omega
theorem u8_back (c : UInt8) : (Int.toNat (c.toNat : Int)).toUInt8 = c := by simp

set_option maxHeartbeats 400000 in
set_option maxRecDepth 100000 in
theorem wordFn_any (c : UInt8) (w : World) : Calls Tryz.prog 36 #[.int .u8 c.toNat] w fun e w' => e = .returned (.bool (wrdB c)) ∧ w = w' := by
  have hW : wrdB c = (letB c || digB c) := rfl
  go_enter Tryz.func36, Tryz.ntmps36
  go_wp2_with fail
  refine (letter_any c _).mono ?_
  rintro r w2 ⟨rfl, rfl⟩
  rcases hb : letB c with _ | _
  · go_wp2_with fail
    refine (digit_any c _).mono ?_
    rintro r w2 ⟨rfl, rfl⟩
    go_wp2_with fail
    go_ret
    exact ⟨ret_bool (by rw [hW, hb]; simp), rfl⟩
  · go_wp2_with fail
    go_ret
    exact ⟨ret_bool (by rw [hW, hb]; simp), rfl⟩

set_option maxHeartbeats 400000 in
set_option maxRecDepth 100000 in
theorem binFn_any (c : UInt8) (w : World) : Calls Tryz.prog 46 #[.int .u8 c.toNat] w fun e w' => e = .returned (.bool (binB c)) ∧ w = w' := by
  have h1 : (0 ≤ Lib.indexByte (str binL).data.toList c) ↔ binL.contains c = true := indexByte_pos binL c
  go_enter Tryz.func46, Tryz.ntmps46
  go_wp2_with fail
  refine (Tryz.strings_IndexByte (str binL) _ _).mono ?_
  rw [u8_back]
  rintro r w2 ⟨rfl, rfl⟩
  go_wp2_with fail
  go_ret
  refine ⟨ret_bool ?_, rfl⟩
  rw [Bool.eq_iff_iff]
  simp [binB]

set_option maxHeartbeats 400000 in
set_option maxRecDepth 100000 in
theorem scWord_any (l : List UInt8) (hl : l.length ≤ 100000) (w : World) : Calls Tryz.prog 23 #[.string (str l)] w fun e w' => e = .returned (.int .i64 (wrdL l)) ∧ w = w' := by
  have hsz := str_size l
  have hR := run_any 36 (.inl rfl) wrdB wordFn_any l hl
  have HR := Lib.hid hR
  clear hR
  rcases hl0 : l[0]? with _ | c
  · have hle : l = [] := by
      cases l with
      | nil => rfl
      | cons c r => simp at hl0
    have hne : (str l).toList.isEmpty = true := by rw [str_toList, hle]; rfl
    have hW : wrdL l = 0 := by rw [hle]; rfl
    have HW := Lib.hid hW
    clear hle hl0 hW
    go_enter Tryz.func23, Tryz.ntmps23
    go_wp2_with fail
    go_ret
    exact ⟨ret_int (by rw [HW.out]; rfl), rfl⟩
  · have hlt : 0 < l.length := (List.getElem?_eq_some_iff.1 hl0).1
    have hne : (str l).toList.isEmpty = false := by
      rw [str_toList]
      cases l with
      | nil => simp at hlt
      | cons c r => rfl
    have hg := str_getE hl0 (by omega)
    have hW : wrdL l = if letB c then runL wrdB l else 0 := by
      cases l with
      | nil => simp at hlt
      | cons d r =>
        simp at hl0
        subst hl0
        rfl
    have HW := Lib.hid hW
    clear hl0 hW
    go_enter Tryz.func23, Tryz.ntmps23
    go_wp2_with fail
    refine (letter_any c _).mono ?_
    rintro r w2 ⟨rfl, rfl⟩
    rcases hb : letB c with _ | _
    · go_wp2_with fail
      go_ret
      exact ⟨ret_int (by rw [HW.out, hb]; rfl), rfl⟩
    · go_wp2_with fail
      refine (HR.out _).mono ?_
      rintro r w2 ⟨rfl, rfl⟩
      go_wp2_with fail
      go_ret
      exact ⟨ret_int (by rw [HW.out, hb]; rfl), rfl⟩

set_option maxHeartbeats 400000 in
set_option maxRecDepth 100000 in
theorem scBin_any (l : List UInt8) (hl : l.length ≤ 100000) (w : World) : Calls Tryz.prog 32 #[.string (str l)] w fun e w' => e = .returned (.int .i64 (min 2 (runL binB l) : Nat)) ∧ w = w' := by
  go_enter Tryz.func32, Tryz.ntmps32
  go_wp2_with fail
  refine (run_any 46 (.inr (.inr rfl)) binB binFn_any l hl _).mono ?_
  rintro r w2 ⟨rfl, rfl⟩
  go_wp2_with fail
  go_ret
  exact ⟨ret_int (by omega), rfl⟩
end Go.Proofs.YtefloadjolpgbaaGreatDoor

namespace Go.Proofs.YtefloadjolpgbaaGreatDoor
open Go.RowKit

theorem Mod.iterAt {F : Nat → Prop} {a w : World} (h : Mod F a w) {k : Nat} (hk : F k ∨ a.heap.size ≤ k) (s : ByteArray) (pos : Nat) : Mod F a (w.iterAt k s pos) :=
  ⟨h.os, h.tape, h.output, by rw [Lib.iterAt_size]; exact h.size, fun i hi hn => (Lib.iterAt_other w k i s pos (by
    rintro rfl
    rcases hk with hk | hk
    · exact hn hk
    · omega)).trans (h.block i hi hn)⟩

theorem iter_pos {w : World} {k : Nat} {s : ByteArray} {p : Nat} (h : w.heap[k]? = some (.stringIter s p)) : w.iterPos k = p := by simp [World.iterPos, h]

/-- A rune that a name's place does not take. -/
def badR (r pos : Nat) : Bool := !smallR r && !largeR r && (decide (pos = 0) || !digR r)

structure IsSt (w : World) (l : List UInt8) (pos : Nat) (wr : World) : Prop where
  le : pos ≤ l.length
  it : wr.heap[w.heap.size]? = some (.stringIter (str l) pos)
  mod : Mod Nil w wr
  ok : ∀ i c, i < pos → l[i]? = some c → badR c.toNat i = false

theorem badR_word {c : UInt8} {i : Nat} (h : badR c.toNat i = false) : wrdB c = true ∧ (i = 0 → letB c = true) := by
  unfold badR at h
  unfold wrdB letB smallB largeB digB
  unfold smallR largeR digR at h
  refine ⟨?_, fun hi => ?_⟩
  · simp at h ⊢
    omega
  · subst hi
    simp at h ⊢
    omega
theorem nmIs_bad {l : List UInt8} {i : Nat} {c : UInt8} (hc : l[i]? = some c) (h : badR c.toNat i = true) : nmIs l = false := by
  rw [Bool.eq_false_iff]
  intro hn
  unfold nmIs at hn
  cases l with
  | nil => simp at hc
  | cons d r =>
    simp only [Bool.and_eq_true] at hn
    obtain ⟨⟨h1, h2⟩, _⟩ := hn
    have h3 : wrdB c = true := List.all_eq_true.1 h2 c (List.mem_of_getElem? hc)
    unfold badR smallR largeR digR at h
    unfold wrdB letB smallB largeB digB at h3
    cases i with
    | zero =>
      simp at hc
      subst hc
      unfold letB smallB largeB at h1
      simp at h h1
      omega
    | succ i =>
      simp at h h3
      omega
theorem nmIs_ok {l : List UInt8} (h : ∀ i c, i < l.length → l[i]? = some c → badR c.toNat i = false) : nmIs l = (decide (1 ≤ l.length) && decide (l.length ≤ 40)) := by
  unfold nmIs
  cases l with
  | nil => rfl
  | cons d r =>
    have h1 : letB d = true := (badR_word (h 0 d (by simp) rfl)).2 rfl
    have h2 : (d :: r).all wrdB = true := by
      rw [List.all_eq_true]
      intro c hc
      obtain ⟨i, hi⟩ := List.getElem?_of_mem hc
      exact (badR_word (h i c (List.getElem?_eq_some_iff.1 hi).1 hi)).1
    simp only [h1, h2, Bool.true_and]
    simp

set_option maxHeartbeats 1600000 in
set_option maxRecDepth 100000 in
theorem nmIs_any (l : List UInt8) (hl : l.length ≤ 4000000) (w : World) : Calls Tryz.prog 24 #[.string (str l)] w fun e w' => e = .returned (.bool (nmIs l)) ∧ Mod Nil w w' := by
  have hsz := str_size l
  go_enter Tryz.func24, Tryz.ntmps24
  go_wp2_with fail
  go_loopw [3] (fun _ wr => ∃ pos, IsSt w l pos wr) (fun _ wr => l.length - wr.iterPos w.heap.size)
  case atStart => exact ⟨0, Nat.zero_le _, World.iter_heap w (str l) 0, (Mod.refl _ _).alloc _, fun i c hi => absurd hi (by omega)⟩
  case round =>
    obtain ⟨pos, hst⟩ := hrel
    have hpos := iter_pos hst.it
    have HST := Lib.hid hst
    by_cases hp : pos < l.length
    · obtain ⟨c, hc⟩ : ∃ c, l[pos]? = some c := ⟨_, List.getElem?_eq_getElem hp⟩
      obtain ⟨r, wd, hnx, hr, hrc⟩ : ∃ r wd : Nat, (∀ ty, (Instr.next (.pointer (some ⟨w.heap.size, 0, none⟩)) true ty).run Tryz.prog wr = .ok (.tuple #[.bool true, .int .i64 pos, .int .i32 r]) (wr.iterAt w.heap.size (str l) (pos + wd))) ∧ r ≤ 2147483647 ∧ ((r = c.toNat ∧ wd = 1) ∨ (128 ≤ c.toNat ∧ 128 ≤ r)) := by
        have hg := str_getE hc (by omega)
        by_cases h128 : c.toNat < 128
        · have := c.toNat_lt
          refine ⟨c.toNat, 1, fun ty => ?_, by omega, .inl ⟨rfl, rfl⟩⟩
          have h1 := Lib.run_next_ascii_at (P := Tryz.prog) wr w.heap.size (str l) pos ty hst.it (by omega) (by rw [hg]; exact h128)
          rw [hg] at h1
          exact h1
        · refine ⟨_, _, fun ty => Lib.run_next_any_at wr w.heap.size (str l) pos ty hst.it (by omega), decode_le _ _, .inr ⟨by omega, (decode_high (str l) pos (by omega) (by rw [hg]; omega)).1⟩⟩
      have hbad : badR r pos = true → nmIs l = false := by
        intro h
        refine nmIs_bad hc ?_
        rcases hrc with ⟨rfl, _⟩ | ⟨h1, h2⟩
        · exact h
        · unfold badR smallR largeR digR
          simp
          omega
      obtain ⟨W1, hW1⟩ : ∃ W1, W1 = wr.iterAt w.heap.size (str l) (pos + wd) := ⟨_, rfl⟩
      have hmod : Mod Nil w W1 := by rw [hW1]; exact hst.mod.iterAt (.inr (Nat.le_refl _)) _ _
      have hgood : badR r pos = false → IsSt w l (pos + 1) W1 := by
        intro h
        rcases hrc with ⟨h1, h2⟩ | ⟨h1, h2⟩
        · refine ⟨hp, ?_, hmod, fun i d hi hd => ?_⟩
          · rw [hW1, h2]
            exact Lib.iterAt_heap _ _ _ _ _ hst.it
          · rcases Nat.lt_or_ge i pos with h | h'
            · exact hst.ok i d h hd
            · have : i = pos := by omega
              subst this
              rw [hc] at hd
              cases hd
              rw [← h1]
              exact h
        · exfalso
          unfold badR smallR largeR digR at h
          simp at h
          omega
      rw [← hW1] at hnx
      have HB := Lib.hid hbad
      have HG := Lib.hid hgood
      have HM := Lib.hid hmod
      have HBR : badR r pos = (!smallR r && !largeR r && (decide (pos = 0) || !digR r)) := rfl
      have HBH := Lib.hid HBR
      clear hst hbad hgood hmod hW1 hc hrc HBR
      go_wp2_with fail
      refine (nmSmall_any r hr _).mono ?_
      rintro e w2 ⟨rfl, rfl⟩
      rcases h1 : smallR r with _ | _
      · go_wp2_with fail
        refine (nmLarge_any r hr _).mono ?_
        rintro e w2 ⟨rfl, rfl⟩
        rcases h2 : largeR r with _ | _
        · by_cases h0 : pos = 0
          · have hb : badR r pos = true := by rw [HBH.out, h1, h2, h0]; rfl
            have HD := Lib.hid (HB.out hb)
            clear hb
            subst h0
            go_wp2_with fail
            go_ret
            exact ⟨ret_bool HD.out.symm, HM.out⟩
          · have h0' : ((pos : Int) == 0) = false := by simp [h0]
            have HBX := Lib.hid h0
            clear h0
            go_wp2_with fail
            refine (nmDigit_any r hr _).mono ?_
            rintro e w2 ⟨rfl, rfl⟩
            rcases h3 : digR r with _ | _
            · have hb : badR r pos = true := by rw [HBH.out, h1, h2, h3]; simp
              have HD := Lib.hid (HB.out hb)
              clear hb
              go_wp2_with fail
              go_ret
              exact ⟨ret_bool HD.out.symm, HM.out⟩
            · have hb : badR r pos = false := by rw [HBH.out, h1, h2, h3]; simp [HBX.out]
              have HD := Lib.hid (HG.out hb)
              clear hb
              go_wp2_with fail
              refine ⟨⟨pos + 1, HD.out⟩, ?_⟩
              rw [iter_pos HD.out.it, hpos]
              omega
        · have hb : badR r pos = false := by rw [HBH.out, h1, h2]; rfl
          have HD := Lib.hid (HG.out hb)
          clear hb
          go_wp2_with fail
          refine ⟨⟨pos + 1, HD.out⟩, ?_⟩
          rw [iter_pos HD.out.it, hpos]
          omega
      · have hb : badR r pos = false := by rw [HBH.out, h1]; rfl
        have HD := Lib.hid (HG.out hb)
        clear hb
        go_wp2_with fail
        refine ⟨⟨pos + 1, HD.out⟩, ?_⟩
        rw [iter_pos HD.out.it, hpos]
        omega
    · have hnx : ∀ ty, (Instr.next (.pointer (some ⟨w.heap.size, 0, none⟩)) true ty).run Tryz.prog wr = _ := fun ty => Lib.run_next_end_at wr w.heap.size (str l) pos ty hst.it (by omega)
      have hle := hst.le
      have heq : pos = l.length := by omega
      have HR := Lib.hid (nmIs_ok (l := l) (fun i c hi hc => hst.ok i c (by omega) hc))
      clear hst heq
      go_wp2_with fail
      · rename_i h
        go_ret
        refine ⟨ret_bool ?_, HST.out.mod⟩
        have h1 : 1 ≤ l.length := by omega
        rw [HR.out]
        simp [h1]
        omega
      · rename_i h
        go_ret
        refine ⟨ret_bool ?_, HST.out.mod⟩
        rw [HR.out]
        simp
        omega

theorem conv_u8_i32 (c : UInt8) : IntKind.i32.wrap (c.toNat : Int) = (c.toNat : Int) := by
  have := c.toNat_lt
  rw [IntKind.wrap_i32]
  omega

set_option maxHeartbeats 400000 in
set_option maxRecDepth 100000 in
theorem nmLower_any (l : List UInt8) (hl : l.length ≤ 4000000) (w : World) : Calls Tryz.prog 54 #[.string (str l)] w fun e w' => e = .returned (.bool (nmLower l)) ∧ Mod Nil w w' := by
  have hsz := str_size l
  have HL : nmLower l = (nmIs l && (match l with | [] => false | c :: _ => smallB c)) := by unfold nmLower; cases l <;> rfl
  have HL := Lib.hid HL
  go_enter Tryz.func54, Tryz.ntmps54
  go_wp2_with fail
  refine (nmIs_any l hl _).mono ?_
  rintro e w2 ⟨rfl, hm⟩
  have HM := Lib.hid hm
  clear hm
  rcases hb : nmIs l with _ | _
  · go_wp2_with fail
    go_ret
    exact ⟨ret_bool (by rw [HL.out, hb]; rfl), HM.out⟩
  · obtain ⟨c, r, rfl⟩ : ∃ c r, l = c :: r := by
      cases l with
      | nil => simp [nmIs] at hb
      | cons c r => exact ⟨c, r, rfl⟩
    have hg := str_getE (l := c :: r) (k := 0) (c := c) rfl (by rw [hsz]; simp)
    have hu := u8_lt c
    have hw := conv_u8_i32 c
    have hlen : (0 : Int) < ((str (c :: r)).size : Int) := by rw [hsz]; simp
    have hlen' : 0 < (str (c :: r)).size := by rw [hsz]; simp
    have HB := Lib.hid hb
    clear hb
    go_wp2_with fail
    refine (nmSmall_any c.toNat (by omega) _).mono ?_
    rintro e w3 ⟨rfl, rfl⟩
    go_wp2_with fail
    go_ret
    exact ⟨ret_bool (by rw [HL.out, HB.out]; rfl), HM.out⟩
end Go.Proofs.YtefloadjolpgbaaGreatDoor

namespace Go.Proofs.YtefloadjolpgbaaGreatDoor
open Go.RowKit

theorem dropWhile_nil {p : UInt8 → Bool} : ∀ {l : List UInt8}, l.dropWhile p = [] ↔ l.all p = true
  | [] => by simp
  | c :: r => by
    rw [List.dropWhile_cons, List.all_cons]
    cases hp : p c with
    | true => simpa using dropWhile_nil (p := p) (l := r)
    | false => simp
theorem dropWhile_head {p : UInt8 → Bool} : ∀ {l : List UInt8} {c : UInt8} {r : List UInt8}, l.dropWhile p = c :: r → p c = false
  | [], _, _, h => by simp at h
  | d :: l, c, r, h => by
    rw [List.dropWhile_cons] at h
    cases hp : p d with
    | true =>
      rw [hp] at h
      exact dropWhile_head (p := p) (l := l) (by simpa using h)
    | false =>
      rw [hp] at h
      simp at h
      rw [← h.1]
      exact hp
theorem trimS_nil (l cs : List UInt8) : Lib.trimS l cs = [] ↔ l.all (cs.contains ·) = true := by
  unfold Lib.trimS Lib.trimLeftS Lib.trimRightS
  rw [dropWhile_nil, List.all_reverse]
  constructor
  · intro h
    rcases hd : l.reverse.dropWhile (cs.contains ·) with _ | ⟨c, r⟩
    · have := dropWhile_nil.1 hd
      rwa [List.all_reverse] at this
    · have h1 := dropWhile_head hd
      rw [hd] at h
      simp only [List.all_cons, Bool.and_eq_true] at h
      have h2 := h.1
      rw [h1] at h2
      cases h2
  · intro h
    have h2 : l.reverse.dropWhile (cs.contains ·) = [] := dropWhile_nil.2 (by rw [List.all_reverse]; exact h)
    rw [h2]
    rfl

set_option maxHeartbeats 400000 in
set_option maxRecDepth 100000 in
theorem nmBin_any (l : List UInt8) (hl : l.length ≤ 4000000) (w : World) : Calls Tryz.prog 55 #[.string (str l)] w fun e w' => e = .returned (.bool (nmBin l)) ∧ Mod Nil w w' := by
  have hsz := str_size l
  have hT := Any.strings_Trim_laid Tryz.lays160 (by kernel_rfl) (str l) (str binL)
  have HT := Lib.hid hT
  have HL : nmBin l = ((decide (l.length = 1) || decide (l.length = 2)) && l.all binB) := rfl
  have HB := Lib.hid HL
  clear hT HL
  by_cases h12 : l.length = 1 ∨ l.length = 2
  · have hq : l.all binB = (Lib.trimS l binL).isEmpty := by
      rw [Bool.eq_iff_iff, List.isEmpty_iff, trimS_nil]
      rfl
    have HQ := Lib.hid hq
    clear hq
    have hd : (decide (l.length = 1) || decide (l.length = 2)) = true := by simpa using h12
    have HD := Lib.hid hd
    clear hd
    have hne : (str (Lib.trimS l binL)).toList.isEmpty = (Lib.trimS l binL).isEmpty := by rw [str_toList]
    rcases h12 with h1 | h1
    all_goals
      go_enter Tryz.func55, Tryz.ntmps55
      go_wp2_with fail
      refine (HT.out _ (by omega) (by decide) (ascii_of_all (by decide))).mono ?_
      rintro e w2 ⟨rfl, hm⟩
      have HM := Lib.hid hm
      clear hm
      go_wp2_with fail
      go_ret
      refine ⟨ret_bool ?_, Mod.of_below HM.out⟩
      rw [HB.out, HD.out, HQ.out]
      simp
      rfl
  · have h1 : l.length ≠ 1 := fun h => h12 (.inl h)
    have h2 : l.length ≠ 2 := fun h => h12 (.inr h)
    have hd : (decide (l.length = 1) || decide (l.length = 2)) = false := by simp [h1, h2]
    have HD := Lib.hid hd
    clear hd
    have hi1 : ((l.length : Int) == 1) = false := by simp; omega
    have hi2 : ((l.length : Int) == 2) = false := by simp; omega
    clear h12 h1 h2
    go_enter Tryz.func55, Tryz.ntmps55
    go_wp2_with fail
    go_ret
    exact ⟨ret_bool (by rw [HB.out, HD.out]; rfl), Mod.refl _ _⟩
end Go.Proofs.YtefloadjolpgbaaGreatDoor

namespace Go.Proofs.YtefloadjolpgbaaGreatDoor
open Go.RowKit

def sv (p : List UInt8) : Value := .string (str p)

theorem splitC_count : ∀ l : List UInt8, Lib.countByte l 58 = (splitC l).1.length
  | [] => rfl
  | c :: r => by
    have ih := splitC_count r
    unfold Lib.countByte at ih ⊢
    rw [splitC, List.count_cons, ih]
    by_cases hc : c = 58
    · simp [hc]
    · rw [if_neg hc, if_neg (by simpa using hc)]
      rcases (splitC r).1 with _ | ⟨p, ps⟩ <;> simp
theorem splitC_len (l : List UInt8) : (splitC l).1.length ≤ l.length := by
  rw [← splitC_count]
  exact List.count_le_length
theorem split_step : ∀ {rest : List UInt8}, (splitC rest).1 ≠ [] → ∃ p r', rest = p ++ 58 :: r' ∧ Lib.indexByte rest 58 = p.length ∧ splitC rest = (p :: (splitC r').1, (splitC r').2)
  | [], h => absurd rfl h
  | c :: r, h => by
    by_cases hc : c = 58
    · subst hc
      exact ⟨[], r, rfl, by simp [Lib.indexByte], by rw [splitC, if_pos rfl]⟩
    · have h2 : (splitC r).1 ≠ [] := by
        intro h0
        rw [splitC, if_neg hc, h0] at h
        exact h rfl
      obtain ⟨p, r', h3, h4, h5⟩ := split_step (rest := r) h2
      refine ⟨c :: p, r', by rw [h3]; rfl, ?_, by rw [splitC, if_neg hc, h5]⟩
      have hb : (c == 58) = false := by simp [hc]
      have hne : ((p.length : Int) == -1) = false := by simp
      rw [Lib.indexByte, hb, h4, hne]
      simp
theorem split_end {rest : List UInt8} (h : (splitC rest).1 = []) : (splitC rest).2 = rest := by
  have := splitC_join rest
  rw [h] at this
  simpa using this

/-- What the row holds when so many pieces are done. -/
def spCells (n : Nat) (done : List (List UInt8)) : Array Value := (done.map (fun p => sv (p ++ [58])) ++ List.replicate (n + 1 - done.length) (sv [])).toArray
theorem spCells_set {n : Nat} {done : List (List UInt8)} (h : done.length < n) (p : List UInt8) : (spCells n done).setIfInBounds done.length (sv (p ++ [58])) = spCells n (done ++ [p]) := by
  unfold spCells
  obtain ⟨m, hm⟩ : ∃ m, n + 1 - done.length = m + 1 := ⟨n - done.length, by omega⟩
  rw [hm, List.length_append, List.length_singleton, show n + 1 - (done.length + 1) = m by omega, List.replicate_succ]
  simp
theorem spCells_get {n : Nat} {done : List (List UInt8)} (h : done.length ≤ n) : (spCells n done)[done.length]? = some (sv []) := by
  unfold spCells
  obtain ⟨m, hm⟩ : ∃ m, n + 1 - done.length = m + 1 := ⟨n - done.length, by omega⟩
  rw [hm]
  simp
theorem spCells_end {n : Nat} {done : List (List UInt8)} (h : done.length = n) (r : List UInt8) : (spCells n done).setIfInBounds n (sv r) = (done.map (fun p => sv (p ++ [58])) ++ [sv r]).toArray := by
  unfold spCells
  rw [h, show n + 1 - n = 1 by omega]
  simp [h]

structure SpSt (w : World) (l : List UInt8) (done : List (List UInt8)) (rest : List UInt8) (wr : World) : Prop where
  eq : splitC l = (done ++ (splitC rest).1, (splitC rest).2)
  le : rest.length ≤ l.length
  blk : Blk wr w.heap.size 9 (spCells (splitC l).1.length done)
  mod : Mod Nil w wr

set_option maxHeartbeats 1600000 in
set_option maxRecDepth 100000 in
theorem gsplit_any (l : List UInt8) (hl : l.length ≤ 2000000) (w : World) :
    Calls Tryz.prog 77 #[.string (str l), .string ⟨#[58]⟩, .int .i64 1, .int .i64 (-1)] w fun e w' => e = .returned (.slice (some ⟨w.heap.size, 0, none⟩) ((splitC l).1.length + 1) ((splitC l).1.length + 1)) ∧
      Blk w' w.heap.size 9 ((splitC l).1.map (fun p => sv (p ++ [58])) ++ [sv (splitC l).2]).toArray ∧ Mod Nil w w' := by
  have hcnt := splitC_count l
  have hcl := splitC_len l
  obtain ⟨n, hn⟩ : ∃ n, n = (splitC l).1.length := ⟨_, rfl⟩
  obtain ⟨i0, hi, hz0, hz1, hz2⟩ := info_parts (show (Tryz.prog.info? 9).map (fun i => (i.zero, i.size, i.bytes)) = some (some (.string ⟨#[]⟩), 1, 16) by kernel_rfl)
  have hmk : (Instr.makeSlice 46 (.int .i64 ((n : Int) + 1)) (.int .i64 ((n : Int) + 1))).run Tryz.prog w = .ok (.slice (some ⟨w.heap.size, 0, none⟩) (n + 1) (n + 1)) (w.alloc (.cells (spCells n []) 9)) := by
    have := run_make (P := Tryz.prog) w 46 9 i0 (.string ⟨#[]⟩) Tryz.underlying46 hi hz0 .i64 .i64 ((n : Int) + 1) ((n : Int) + 1) (by omega) (by omega) (by rw [hz2]; omega) (by omega)
    rw [this, hz1, show ((n : Int) + 1).toNat = n + 1 by omega]
    have hmc : madeCells (Value.string ⟨#[]⟩).cells ((n + 1) * 1) = spCells n [] := by
      unfold spCells
      simp [madeCells, sv, Value.cells, str]
      apply Array.ext
      · simp
      · intro i h1 h2
        simp [Nat.mod_one]
    rw [hmc]
  rw [← hn]
  rw [← hn] at hcnt hcl
  have hst0 : SpSt w l [] l (w.alloc (.cells (spCells n []) 9)) := ⟨by simp, Nat.le_refl _, by rw [← hn]; exact Blk.new _ _ _, (Mod.refl _ _).alloc _⟩
  have HST0 := Lib.hid hst0
  have hsz := str_size l
  have HN := Lib.hid hn
  clear hst0 hi hz0 hz1 hz2 hn
  have hcb : Lib.countByte (str l).data.toList 58 = n := hcnt
  clear hcnt
  have hmin : min (n : Int) (l.length : Int) = n := by omega
  have hn5 : n ≤ 2000000 := by omega
  clear hcl
  go_enter Tryz.func77, Tryz.ntmps77
  go_wp2_with fail
  refine (Tryz.strings_Count_one (str l) 58 _).mono ?_
  rintro e w2 ⟨rfl, rfl⟩
  rw [hcb]
  go_wp2_with fail
  clear hmk hcb hmin
  go_loopw [0, 10] (fun s i wr => ∃ done rest, s = sv rest ∧ i = .int .i64 (done.length : Nat) ∧ SpSt w2 l done rest wr) (fun _ i _ => n - (intOf i).toNat)
  case atStart => exact ⟨[], l, rfl, rfl, HST0.out⟩
  case round =>
    obtain ⟨done, rest, rfl, rfl, hst⟩ := hrel
    have hdn : done.length + (splitC rest).1.length = n := by
      have := congrArg (fun x => x.1.length) hst.eq
      simp only [List.length_append] at this
      rw [HN.out, this]
    have hrl := hst.le
    have hsr := str_size rest
    have HST := Lib.hid hst
    clear hst hsz
    simp only [sv]
    by_cases hlt : done.length < n
    · have hne : (splitC rest).1 ≠ [] := by
        intro h0
        rw [h0] at hdn
        simp at hdn
        omega
      obtain ⟨p, r', hr, hix, hsp⟩ := split_step hne
      have hpl : rest.length = p.length + 1 + r'.length := by rw [hr]; simp; omega
      have he1 : (str rest).extract 0 (p.length + 1) = str (p ++ [58]) := by
        rw [str_extract, hr]
        simp [List.take_append, List.take_of_length_le]
      have he2 : (str rest).extract (p.length + 1) (p.length + 1 + r'.length) = str r' := by
        rw [str_extract, hr]
        rw [show p.length + 1 + r'.length - (p.length + 1) = r'.length by omega]
        simp [List.drop_append, List.drop_of_length_le]
      have HIX := Lib.hid (show Lib.indexByte (str rest).data.toList 58 = p.length from hix)
      have HNEXT := Lib.hid (show splitC l = ((done ++ [p]) ++ (splitC r').1, (splitC r').2) by rw [HST.out.eq, hsp]; simp)
      have HSET := Lib.hid (spCells_set (n := n) (done := done) hlt p)
      have hb := HST.out.blk
      rw [← HN.out] at hb
      have HBK := Lib.hid hb
      have hfz := hb.frozen done.length
      have hcl := (hb.cell done.length).trans (spCells_get (by omega))
      clear hb hr hix hsp hne hdn
      go_wp2_with fail
      refine (Tryz.strings_Index_one (str rest) 58 _).mono ?_
      rintro e w3 ⟨rfl, rfl⟩
      rw [HIX.out]
      go_wp2_with fail
      refine ⟨⟨done ++ [p], r', rfl, by simp, ⟨HNEXT.out, by omega, ?_, ?_⟩⟩, ?_⟩
      · rw [← HN.out, ← HSET.out]
        exact HBK.out.set_ _ _
      · exact HST.out.mod.set (.inr (Nat.le_refl _)) _
      · simp [intOf]
        omega
    · have hdone : done.length = n := by omega
      have h0 : (splitC rest).1 = [] := List.eq_nil_of_length_eq_zero (by omega)
      have h1 := split_end h0
      have HEQ := Lib.hid (show splitC l = (done, rest) by rw [HST.out.eq, h0, h1]; simp)
      have HSET := Lib.hid (spCells_end hdone rest)
      have hb := HST.out.blk
      rw [← HN.out] at hb
      have HBK := Lib.hid hb
      have hfz := hb.frozen n
      have hcl := (hb.cell done.length).trans (spCells_get (by omega))
      rw [hdone] at hcl
      clear hb h0 h1 hdn
      go_wp2_with fail
      go_ret
      refine ⟨rfl, ?_, HST.out.mod.set (.inr (Nat.le_refl _)) _⟩
      have := HBK.out.set_ n (sv rest)
      rw [HSET.out] at this
      rw [HEQ.out]
      exact this
end Go.Proofs.YtefloadjolpgbaaGreatDoor
