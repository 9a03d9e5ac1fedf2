/- Parts of the proof of StoreActs, joined: Base Str Row OctW CrcW OctX OctY Fld RowF CrcR. -/
import Derived.Test.YtjmehamkpmimkaaProg
import Derived.Below
import Derived.WalkKit
import Derived.KernelRfl
import Derived.Lib.Hide
import Derived.Deep.Draws
import Derived.Deep.AppendLies
import Derived.Maps.AppendAt
import Derived.RegionTactic
import Derived.OwnWalk
import Derived.Lib.ConvBytes
import Derived.Laws.BytesArg
import Derived.WalkSpells
import Derived.Lib.SlBytesConst
import Derived.Test.YtjmehamkpmimkaaRows
import Derived.ProofKit
import Derived.OpenShut
import Derived.ShutString
import Derived.ChangeOld
import Derived.Deep.RegionLaw
import Derived.Deep.RegionLawGrows
import Derived.BigQuiet
import Derived.Lib.AppendStr
import Derived.LoopTactic
import Derived.Deep.Slices
import Derived.Deep.Fields
import Derived.ChangeSame
import Derived.SliceStrings
namespace Go.Proofs.Ytjmehamkpmimkaa
open Go.RowKit

/-! ### what may have turned -/

/-- Only blocks of F, and new ones, have turned. -/
structure Mod (F : Nat → Prop) (w w' : World) : Prop where
  os : w'.os = w.os
  tape : w'.tape = w.tape
  output : w'.output = w.output
  size : w.heap.size ≤ w'.heap.size
  block : ∀ k, k < w.heap.size → ¬ F k → w'.heap[k]? = w.heap[k]?

/-- No block of old has turned. -/
def Nil : Nat → Prop := fun _ => False

theorem Mod.refl (F : Nat → Prop) (w : World) : Mod F w w := ⟨rfl, rfl, rfl, Nat.le_refl _, fun _ _ _ => rfl⟩
theorem Mod.trans' {F G H : Nat → Prop} {a b c : World} (h : Mod F a b) (k : Mod G b c) (hF : ∀ i, i < a.heap.size → F i → H i) (hG : ∀ i, i < a.heap.size → G i → H i) : Mod H a c :=
  ⟨k.os.trans h.os, k.tape.trans h.tape, k.output.trans h.output, Nat.le_trans h.size k.size, fun i hi hn =>
    (k.block i (Nat.lt_of_lt_of_le hi h.size) (fun hg => hn (hG i hi hg))).trans (h.block i hi (fun hf => hn (hF i hi hf)))⟩
theorem Mod.trans {F : Nat → Prop} {a b c : World} (h : Mod F a b) (k : Mod F b c) : Mod F a c := h.trans' k (fun _ _ h => h) (fun _ _ h => h)
theorem Mod.mono {F G : Nat → Prop} {a b : World} (h : Mod F a b) (hF : ∀ i, i < a.heap.size → F i → G i) : Mod G a b :=
  ⟨h.os, h.tape, h.output, h.size, fun i hi hn => h.block i hi (fun hf => hn (hF i hi hf))⟩
theorem Mod.any {F : Nat → Prop} {a b : World} (h : Mod Nil a b) : Mod F a b := h.mono fun _ _ h => h.elim
theorem Mod.of_below {F : Nat → Prop} {w w' : World} (h : Below w.heap.size w w') : Mod F w w' := ⟨h.os, h.tape, h.output, h.size, fun i hi _ => h.block i hi⟩
theorem Mod.below {w w' : World} (h : Mod Nil w w') : Below w.heap.size w w' := ⟨h.os, h.tape, h.output, h.size, fun i hi => h.block i hi id⟩
theorem Mod.below' {B : Nat} {w w' : World} (h : Mod (fun k => B ≤ k) w w') (hB : B ≤ w.heap.size) : Below B w w' :=
  ⟨h.os, h.tape, h.output, h.size, fun i hi => h.block i (by omega) (by omega)⟩
theorem Mod.of_grown {w w' : World} {row : Option Nat} (h : w.grownBy w' row) : Mod (fun k => row = some k) w w' :=
  ⟨h.os, h.tape, h.output, h.size, fun i hi hn => h.block i hi (fun e => hn e.symm)⟩
theorem Mod.alloc {F : Nat → Prop} {a w : World} (h : Mod F a w) (o : Obj) : Mod F a (w.alloc o) :=
  ⟨h.os, h.tape, h.output, Nat.le_trans h.size (by simp), fun i hi hn => (Below.heap_alloc w o i (Nat.lt_of_lt_of_le hi h.size)).trans (h.block i hi hn)⟩
theorem Mod.set {F : Nat → Prop} {a w : World} (h : Mod F a w) {p : Addr} (hp : F p.block ∨ a.heap.size ≤ p.block) (u : Value) : Mod F a (w.setCell p u) :=
  ⟨h.os, h.tape, h.output, by simpa [World.setCell] using h.size, fun i hi hn => (Below.heap_setCell w p u i (by
    rintro rfl
    rcases hp with hp | hp
    · exact hn hp
    · omega)).trans (h.block i hi hn)⟩
theorem Mod.drew {F : Nat → Prop} {a w : World} (h : Mod F a w) : Mod F a w.drew := ⟨h.os, h.tape, h.output, h.size, h.block⟩
theorem Mod.drewN {F : Nat → Prop} {a w : World} (h : Mod F a w) (n : Nat) : Mod F a (w.drewN n) := ⟨h.os, h.tape, h.output, h.size, h.block⟩
theorem Mod.cell {F : Nat → Prop} {w w' : World} (h : Mod F w w') {p : Addr} (hp : p.block < w.heap.size) (hn : ¬ F p.block) : w'.cell? p = w.cell? p := World.cell?_of_block (h.block _ hp hn)
theorem Mod.frozen {F : Nat → Prop} {w w' : World} (h : Mod F w w') {p : Addr} (hp : p.block < w.heap.size) (hn : ¬ F p.block) : w'.frozen? p = w.frozen? p := World.frozen?_of_block (h.block _ hp hn)

theorem block_of_add (a : Addr) (n : Nat) : (a.add n).block = a.block := by unfold Addr.add; split <;> rfl
theorem add_of_add (a : Addr) (i j : Nat) : (a.add i).add j = a.add (i + j) := by
  unfold Addr.add
  by_cases hi : i = 0 <;> by_cases hj : j = 0 <;> simp [hi, hj, Nat.add_assoc]
theorem add_zero (a : Addr) : a.add 0 = a := by simp [Addr.add]

/-! ### a slice that reads as a list of octets -/

/-- The value of an octet. -/
def bv (u : UInt8) : Value := .int .u8 (u.toNat : Int)

/-- The slice at A, of blocks in S, reads as the values xs, one a cell. -/
def Rd (S : Nat → Prop) (w : World) (A : Option Addr) (xs : List Value) : Prop :=
  0 < xs.length → ∃ ad, A = some ad ∧ S ad.block ∧ ad.block < w.heap.size ∧ ∀ j u, xs[j]? = some u → w.cell? (ad.add j) = some u

def All : Nat → Prop := fun _ => True

section
variable {S S' F : Nat → Prop} {w w' : World} {A : Option Addr} {xs : List Value}
theorem Rd.nil (S : Nat → Prop) (w : World) (A : Option Addr) : Rd S w A [] := fun h => absurd h (by simp)
theorem Rd.keep (h : Rd S w A xs) (hm : Mod F w w') (hS : ∀ b, S b → ¬ F b) : Rd S w' A xs := fun hn => by
  obtain ⟨ad, e, hs, hb, hc⟩ := h hn
  exact ⟨ad, e, hs, Nat.lt_of_lt_of_le hb hm.size, fun j u hu => (hm.cell (by rw [block_of_add]; exact hb) (by rw [block_of_add]; exact hS _ hs)).trans (hc j u hu)⟩
theorem Rd.keep0 (h : Rd S w A xs) (hm : Mod Nil w w') : Rd S w' A xs := h.keep hm fun _ _ => id
theorem Rd.mono (h : Rd S w A xs) (hS : ∀ b, b < w.heap.size → S b → S' b) : Rd S' w A xs := fun hn => by
  obtain ⟨ad, e, hs, hb, hc⟩ := h hn
  exact ⟨ad, e, hS _ hb hs, hb, hc⟩
theorem Rd.at_ (h : Rd S w A xs) {k : Nat} {u : Value} (hk : xs[k]? = some u) : ∃ ad, A = some ad ∧ S ad.block ∧ ad.block < w.heap.size ∧ w.cell? (ad.add k) = some u := by
  have hl : k < xs.length := (List.getElem?_eq_some_iff.1 hk).1
  obtain ⟨ad, e, hs, hb, hc⟩ := h (by omega)
  exact ⟨ad, e, hs, hb, hc k u hk⟩
/-- 's[k:]' -/
theorem Rd.cut (h : Rd S w A xs) {k cap : Nat} (hk : k ≤ xs.length) (hc : xs.length ≤ cap) : Rd S w (if cap = k then A else A.map (·.add k)) (xs.drop k) := fun hn => by
  rw [List.length_drop] at hn
  obtain ⟨ad, rfl, hs, hb, hcell⟩ := h (by omega)
  rw [if_neg (by omega)]
  refine ⟨ad.add k, rfl, by rw [block_of_add]; exact hs, by rw [block_of_add]; exact hb, fun j u hu => ?_⟩
  rw [add_of_add]
  exact hcell _ u (by rw [← hu, List.getElem?_drop])
/-- 's[:k]' -/
theorem Rd.take (h : Rd S w A xs) (k : Nat) : Rd S w A (xs.take k) := fun hn => by
  rw [List.length_take] at hn
  obtain ⟨ad, rfl, hs, hb, hcell⟩ := h (by omega)
  refine ⟨ad, rfl, hs, hb, fun j u hu => hcell j u ?_⟩
  rw [List.getElem?_take] at hu
  split at hu
  · exact hu
  · cases hu
theorem Rd.drop {ad : Addr} (h : Rd S w (some ad) xs) (k : Nat) : Rd S w (some (ad.add k)) (xs.drop k) := fun hn => by
  rw [List.length_drop] at hn
  obtain ⟨ad', h0, hs, hb, hcell⟩ := h (by omega)
  injection h0 with h0
  subst h0
  refine ⟨ad.add k, rfl, by rw [block_of_add]; exact hs, by rw [block_of_add]; exact hb, fun j u hu => ?_⟩
  rw [add_of_add]
  exact hcell _ u (by rw [← hu, List.getElem?_drop])
/-- One cell in a new block. -/
theorem Rd.cells1 (w : World) (u : Value) (t : TypeId) : Rd All (w.alloc (.cells #[u] t)) (some ⟨w.heap.size, 0, none⟩) [u] := fun _ =>
  ⟨_, rfl, trivial, by simp, cell_one_new w u t⟩
theorem Rd.of_own {base : Nat} {e : TypeId} {n c : Nat} (h : w.ownsRow base e 1 (.slice A n c) n xs) : Rd (fun b => base ≤ b) w A xs := fun hn => by
  have hl := h.1
  obtain ⟨g, cap, hv, hb, hlt⟩ := h.form (by omega)
  have hA : A = some ⟨g, 0, none⟩ := by injection hv
  subst hA
  exact ⟨_, rfl, hb, hlt, h.cells (g := g) rfl⟩
end

/-- A slice's value, whatever owns it. -/
theorem own_slice {w : World} {base : Nat} {e : TypeId} {size : Nat} {v : Value} {n : Nat} {xs : List Value} (h : w.ownsRow base e size v n xs) : ∃ A c, v = .slice A n c ∧ n ≤ c ∧ c ≤ maxLen := by
  rcases h.2 with ⟨rfl, rfl⟩ | ⟨g, cap, cur, rfl, _, _, h1, h2, _⟩
  · exact ⟨_, _, rfl, Nat.le_refl _, by simp [maxLen]⟩
  · exact ⟨_, _, rfl, h1, h2⟩

theorem own_keep {F : Nat → Prop} {w w' : World} {base : Nat} {e : TypeId} {size : Nat} {v : Value} {n : Nat} {xs : List Value} (h : w.ownsRow base e size v n xs) (hm : Mod F w w') (hn : ∀ k, v.ownBlock = some k → ¬ F k) : w'.ownsRow base e size v n xs := by
  refine ⟨h.1, ?_⟩
  rcases h.2 with h2 | ⟨g, cap, cur, rfl, hb, hg, rest⟩
  · exact .inl h2
  · exact .inr ⟨g, cap, cur, rfl, hb, (hm.block g (Array.getElem?_eq_some_iff.1 hg).1 (hn g rfl)).trans hg, rest⟩

theorem own_base {w : World} {base base' : Nat} {e : TypeId} {size : Nat} {v : Value} {n : Nat} {xs : List Value} (h : w.ownsRow base e size v n xs) (hb : base' ≤ base) : w.ownsRow base' e size v n xs := by
  refine ⟨h.1, ?_⟩
  rcases h.2 with h2 | ⟨g, cap, cur, rfl, hb', rest⟩
  · exact .inl h2
  · exact .inr ⟨g, cap, cur, rfl, by omega, rest⟩

/-! ### a block that is known whole -/
def Blk (w : World) (g : Nat) (t : TypeId) (cs : Array Value) : Prop := w.heap[g]? = some (.cells cs t (0, 0))
section
variable {F : Nat → Prop} {w w' : World} {g : Nat} {t : TypeId} {cs : Array Value}
theorem Blk.lt (h : Blk w g t cs) : g < w.heap.size := (Array.getElem?_eq_some_iff.1 h).1
theorem Blk.cell (h : Blk w g t cs) (i : Nat) : w.cell? ⟨g, i, none⟩ = cs[i]? := cell_of_row w g i cs t (0, 0) h
theorem Blk.frozen (h : Blk w g t cs) (i : Nat) : w.frozen? ⟨g, i, none⟩ = false := by
  unfold Blk at h
  simp [World.frozen?, h]
theorem Blk.new (w : World) (t : TypeId) (cs : Array Value) : Blk (w.alloc (.cells cs t)) w.heap.size t cs := heap_alloc_new w _
theorem Blk.drew (h : Blk w g t cs) : Blk w.drew g t cs := h
theorem Blk.drewN (h : Blk w g t cs) (n : Nat) : Blk (w.drewN n) g t cs := h
theorem Blk.alloc (h : Blk w g t cs) (o : Obj) : Blk (w.alloc o) g t cs := (Below.heap_alloc w o g h.lt).trans h
theorem Blk.set_ (h : Blk w g t cs) (i : Nat) (u : Value) : Blk (w.setCell ⟨g, i, none⟩ u) g t (cs.setIfInBounds i u) := by
  unfold Blk at h ⊢
  simp [World.setCell, Array.getElem?_modify, h]
theorem Blk.far (h : Blk w g t cs) {p : Addr} (hp : g ≠ p.block) (u : Value) : Blk (w.setCell p u) g t cs := (Below.heap_setCell w p u g hp).trans h
theorem Blk.keep (h : Blk w g t cs) (hm : Mod F w w') (hn : ¬ F g) : Blk w' g t cs := (hm.block g h.lt hn).trans h
theorem Blk.ne_ {g' : Nat} {t' : TypeId} {cs' : Array Value} (h : Blk w g t cs) (h' : Blk w g' t' cs') (hne : t ≠ t') : g ≠ g' := by
  rintro rfl
  unfold Blk at h h'
  rw [h] at h'
  injection h' with h'
  injection h' with _ ht
  exact hne ht
theorem own_blk_ne {base : Nat} {e : TypeId} {size n : Nat} {v : Value} {xs : List Value} (h : w.ownsRow base e size v n xs) (hg : Blk w g t cs) (hne : e ≠ t) : v.ownBlock ≠ some g := by
  rcases h.2 with ⟨rfl, _⟩ | ⟨g', cap, cur, rfl, _, hh, _⟩
  · simp [Value.ownBlock]
  · intro he
    have : g' = g := by simpa [Value.ownBlock] using he
    subst this
    exact Blk.ne_ (t := e) hh hg hne rfl
end

/-! ### append onto a row of the call's own -/
section
variable {P : Program} (w : World)
theorem run_append_of_nil (base : Nat) (t ty e : TypeId) (i : TypeInfo) (size : Nat) (ht : P.underlying t = some (.slice e)) (hi : P.info? e = some i)
    (v : Value) (n : Nat) (xs : List Value) (hown : w.ownsRow base e size v n xs) (c : Nat) : (Builtin.append_ #[t, t] ty #[v, .slice none 0 c]).run P w = .ok v w := by
  rcases hown.2 with ⟨rfl, rfl⟩ | ⟨g, cap, cur, rfl, _, _, hnc, _⟩
  · simp [Builtin.append_, run_underlying ht, sizeOf, typeInfo, hi, Builtin.lenOf, Builtin.firstCells]
  · simp [Builtin.append_, run_underlying ht, sizeOf, typeInfo, hi, Builtin.lenOf, Builtin.firstCells, hnc, storeCells]

/-- append, one cell an element: whatever is appended (nil, empty, a cut). -/
theorem run_append1 (base : Nat) (t ty e : TypeId) (i : TypeInfo) (z : Value) (bytes : Nat) (ht : P.underlying t = some (.slice e)) (hi : P.info? e = some i) (hz : i.zero = some z)
    (hsize : i.size = 1) (hby : i.bytes = bytes) (hzs : z.cells.size = 1)
    (v : Value) (n : Nat) (xs : List Value) (hown : w.ownsRow base e 1 v n xs)
    (S : Nat → Prop) (A : Option Addr) (m c : Nat) (news : List Value) (hl : news.length = m) (hr : Rd S w A news) (h1 : ∀ u ∈ news, u.oneCell' = true)
    (hbytes : (n + m) * bytes ≤ 140737488355328) (h63 : n + m ≤ maxLen) (hbase : base ≤ w.heap.size) :
    ∃ v' w', (Builtin.append_ #[t, t] ty #[v, .slice A m c]).run P w = .ok v' w' ∧ w'.ownsRow base e 1 v' (n + m) (xs ++ news) ∧ w.grownBy w' v.ownBlock ∧
      (v'.ownBlock = v.ownBlock ∨ v'.ownBlock = some w.heap.size) := by
  rcases A with _ | ad
  · have hm : m = 0 := by
      rcases Nat.eq_zero_or_pos m with h0 | h0
      · exact h0
      · obtain ⟨ad, h, _⟩ := hr (by omega)
        cases h
    subst hm
    have hn : news = [] := List.eq_nil_of_length_eq_zero hl
    subst hn
    exact ⟨v, w, run_append_of_nil w base t ty e i 1 ht hi v n xs hown c, by simpa using hown, World.grownBy.refl w _, .inl rfl⟩
  · have hcells : ∀ j u, news[j]? = some u → w.cell? (ad.add j) = some u := by
      intro j u hu
      have hlt := (List.getElem?_eq_some_iff.1 hu).1
      obtain ⟨ad', h, _, _, hc⟩ := hr (by omega)
      injection h with h
      subst h
      exact hc j u hu
    obtain ⟨v', w', hrun, h2, h3, _, h5⟩ := run_append_own_at (P := P) w base t ty e i z 1 bytes ht hi hz hsize hby hzs (by omega) v n xs hown ad m c news (by simpa using hl) hcells h1 h63 hbytes hbase
    exact ⟨v', w', hrun, h2, h3, h5⟩

/-- append of one element or more at one cell an element, the new value written out. -/
theorem run_append_lies1 (base : Nat) (t ty e : TypeId) (i : TypeInfo) (z : Value) (bytes : Nat) (ht : P.underlying t = some (.slice e)) (hi : P.info? e = some i) (hz : i.zero = some z)
    (hsize : i.size = 1) (hby : i.bytes = bytes) (hzs : z.cells.size = 1)
    (v : Value) (n : Nat) (xs : List Value) (hown : w.ownsRow base e 1 v n xs)
    (S : Nat → Prop) (A : Option Addr) (m c : Nat) (news : List Value) (hl : news.length = m) (hr : Rd S w A news) (h1 : ∀ u ∈ news, u.oneCell' = true)
    (hbytes : (n + m) * bytes ≤ 140737488355328) (h63 : n + m ≤ maxLen) (hbase : base ≤ w.heap.size) :
    ∃ A' c' w', (Builtin.append_ #[t, t] ty #[v, .slice A m c]).run P w = .ok (.slice A' (n + m) c') w' ∧ w'.ownsRow base e 1 (.slice A' (n + m) c') (n + m) (xs ++ news) ∧ Mod (fun k => v.ownBlock = some k) w w' ∧
      (∀ k, (Value.slice A' (n + m) c').ownBlock = some k → v.ownBlock = some k ∨ w.heap.size ≤ k) := by
  obtain ⟨v', w', hrun, h2, h3, h4⟩ := run_append1 (P := P) w base t ty e i z bytes ht hi hz hsize hby hzs v n xs hown S A m c news hl hr h1 hbytes h63 hbase
  obtain ⟨A', c', rfl, _, _⟩ := own_slice h2
  refine ⟨A', c', w', hrun, h2, Mod.of_grown h3, fun k hk => ?_⟩
  rcases h4 with h4 | h4
  · exact .inl (h4 ▸ hk)
  · rw [h4] at hk
    injection hk with hk
    exact .inr (by omega)

theorem step_append1 {ops : Array Oper} {o : Oper} {a : Act} {K : Act → World → Prop} {Q : Exit → Act → World → Prop} {E : Prop} (hgd : o.guard = none) (s x : Operand) (t : TypeId)
    (ho : o.op = .call { callee := .builtin .append, args := #[s, x], argTypes := #[t, t] })
    (base : Nat) (e : TypeId) (i : TypeInfo) (z : Value) (bytes : Nat) (ht : P.underlying t = some (.slice e)) (hi : P.info? e = some i) (hz : i.zero = some z)
    (hsize : i.size = 1) (hby : i.bytes = bytes) (hzs : z.cells.size = 1)
    (v : Value) (n : Nat) (xs : List Value) (hs : a.eval s = v) (hown : w.ownsRow base e 1 v n xs)
    (S : Nat → Prop) (A : Option Addr) (m c : Nat) (news : List Value) (hx : a.eval x = .slice A m c) (hl : news.length = m) (hr : Rd S w A news) (h1 : ∀ u ∈ news, u.oneCell' = true)
    (hbytes : (n + m) * bytes ≤ 140737488355328) (h63 : n + m ≤ maxLen) (hbase : base ≤ w.heap.size)
    (h : ∀ A' c' w', w'.ownsRow base e 1 (.slice A' (n + m) c') (n + m) (xs ++ news) → Mod (fun k => v.ownBlock = some k) w w' → (∀ k, (Value.slice A' (n + m) c').ownBlock = some k → v.ownBlock = some k ∨ w.heap.size ≤ k) → K (a.put o.dst (.slice A' (n + m) c')) w') :
    if Region.wanted o (yielded ops a.tmps) = true then Oper.wp P o a w K Q else E := by
  have hw : Region.wanted o (yielded ops a.tmps) = true := by simp [Region.wanted, hgd]
  rw [if_pos hw]
  obtain ⟨A', c', w', hrun, h2, h3, h4⟩ := run_append_lies1 (P := P) w base t o.type e i z bytes ht hi hz hsize hby hzs v n xs hown S A m c news hl hr h1 hbytes h63 hbase
  unfold Oper.wp execOp
  simp only [ho, resolve, invoke, builtin, Sem.run_bind, Sem.run_pure, Result.andThen_ok, List.map_toArray, List.map_cons, List.map_nil, hs, hx, hrun]
  exact h A' c' w' h2 h3 h4

theorem wpList_append1' {ops : Array Oper} {rest : List Oper} {o : Oper} {a : Act} {Q : Exit → Act → World → Prop} (hgd : o.guard = none) (s x : Operand) (t : TypeId)
    (ho : o.op = .call { callee := .builtin .append, args := #[s, x], argTypes := #[t, t] })
    (base : Nat) (e : TypeId) (i : TypeInfo) (z : Value) (bytes : Nat) (ht : P.underlying t = some (.slice e)) (hi : P.info? e = some i) (hz : i.zero = some z)
    (hsize : i.size = 1) (hby : i.bytes = bytes) (hzs : z.cells.size = 1)
    (v : Value) (n : Nat) (xs : List Value) (hs : a.eval s = v) (hown : w.ownsRow base e 1 v n xs)
    (S : Nat → Prop) (A : Option Addr) (m c : Nat) (news : List Value) (hx : a.eval x = .slice A m c) (hl : news.length = m) (hr : Rd S w A news) (h1 : ∀ u ∈ news, u.oneCell' = true)
    (hbytes : (n + m) * bytes ≤ 140737488355328) (h63 : n + m ≤ maxLen) (hbase : base ≤ w.heap.size)
    (h : ∀ A' c' w', w'.ownsRow base e 1 (.slice A' (n + m) c') (n + m) (xs ++ news) → Mod (fun k => v.ownBlock = some k) w w' → (∀ k, (Value.slice A' (n + m) c').ownBlock = some k → v.ownBlock = some k ∨ w.heap.size ≤ k) → wpList P ops Q rest (a.put o.dst (.slice A' (n + m) c')) w') : wpList P ops Q (o :: rest) a w := by
  refine wpList_plain hgd fun K hK => ?_
  obtain ⟨A', c', w', hrun, h2, h3, h4⟩ := run_append_lies1 (P := P) w base t o.type e i z bytes ht hi hz hsize hby hzs v n xs hown S A m c news hl hr h1 hbytes h63 hbase
  unfold Oper.wp execOp
  simp only [ho, resolve, invoke, builtin, Sem.run_bind, Sem.run_pure, Result.andThen_ok, List.map_toArray, List.map_cons, List.map_nil, hs, hx, hrun]
  exact hK _ _ (h A' c' w' h2 h3 h4)

theorem wpList_append1 {ops : Array Oper} {rest : List Oper} {o : Oper} {a : Act} {Q : Exit → Act → World → Prop} (hgd : o.guard = none) (s x : Operand) (t : TypeId)
    (ho : o.op = .call { callee := .builtin .append, args := #[s, x], argTypes := #[t, t] })
    (base : Nat) (e : TypeId) (i : TypeInfo) (z : Value) (bytes : Nat) (ht : P.underlying t = some (.slice e)) (hi : P.info? e = some i) (hz : i.zero = some z)
    (hsize : i.size = 1) (hby : i.bytes = bytes) (hzs : z.cells.size = 1)
    (v : Value) (n : Nat) (xs : List Value) (hs : a.eval s = v) (hown : w.ownsRow base e 1 v n xs)
    (S : Nat → Prop) (A : Option Addr) (m c : Nat) (news : List Value) (hx : a.eval x = .slice A m c) (hl : news.length = m) (hr : Rd S w A news) (h1 : ∀ u ∈ news, u.oneCell' = true)
    (hbytes : (n + m) * bytes ≤ 140737488355328) (h63 : n + m ≤ maxLen) (hbase : base ≤ w.heap.size)
    (h : ∀ v' w', w'.ownsRow base e 1 v' (n + m) (xs ++ news) → w.grownBy w' v.ownBlock → (v'.ownBlock = v.ownBlock ∨ v'.ownBlock = some w.heap.size) → wpList P ops Q rest (a.put o.dst v') w') : wpList P ops Q (o :: rest) a w := by
  refine wpList_plain hgd fun K hK => ?_
  obtain ⟨v', w', hrun, h2, h3, h4⟩ := run_append1 (P := P) w base t o.type e i z bytes ht hi hz hsize hby hzs v n xs hown S A m c news hl hr h1 hbytes h63 hbase
  unfold Oper.wp execOp
  simp only [ho, resolve, invoke, builtin, Sem.run_bind, Sem.run_pure, Result.andThen_ok, List.map_toArray, List.map_cons, List.map_nil, hs, hx, hrun]
  exact hK _ _ (h v' w' h2 h3 h4)
end

/-- A slice's value that reads as xs, a cell each. -/
def IsSl (n : Nat) (xs : List Value) (v : Value) (w : World) : Prop := ∃ A c, v = .slice A n c ∧ n ≤ c ∧ c ≤ maxLen ∧ xs.length = n ∧ Rd All w A xs
theorem IsSl.keep0 {n : Nat} {xs : List Value} {v : Value} {w w' : World} (h : IsSl n xs v w) (hm : Mod Nil w w') : IsSl n xs v w' := by
  obtain ⟨A, c, h1, h2, h3, h4, h5⟩ := h
  exact ⟨A, c, h1, h2, h3, h4, h5.keep0 hm⟩
theorem IsSl.of_own {base n : Nat} {e : TypeId} {xs : List Value} {v : Value} {w : World} (h : w.ownsRow base e 1 v n xs) : IsSl n xs v w := by
  obtain ⟨A, c, rfl, h1, h2⟩ := own_slice h
  exact ⟨A, c, rfl, h1, h2, by simpa using h.1, (Rd.of_own h).mono fun _ _ _ => trivial⟩

theorem bv_one (l : List UInt8) : ∀ u ∈ l.map bv, u.oneCell' = true := by
  intro u hu
  obtain ⟨_, _, rfl⟩ := List.mem_map.1 hu
  rfl

theorem ret_int {k : IntKind} {a b : Int} (h : a = b) : Ending.returned (.int k a) = .returned (.int k b) := by rw [h]
theorem ret_bool {a b : Bool} (h : a = b) : Ending.returned (.bool a) = .returned (.bool b) := by rw [h]

theorem u8_info : (Try.prog.info? 5).map (fun i => (i.zero, i.size, i.bytes)) = some (some (.int .u8 0), 1, 1) := by kernel_rfl

end Go.Proofs.Ytjmehamkpmimkaa

namespace Go.Proofs.Ytjmehamkpmimkaa
open Go.RowKit

/-- The string of octets. -/
def str (l : List UInt8) : ByteArray := ⟨l.toArray⟩
theorem str_list (l : List UInt8) : (str l).data.toList = l := rfl
theorem str_size (l : List UInt8) : (str l).size = l.length := by simp [str, ByteArray.size]
theorem str_inj {a b : List UInt8} (h : str a = str b) : a = b := by
  have := congrArg (fun x : ByteArray => x.data.toList) h
  exact this
theorem str_eta (s : ByteArray) : str s.data.toList = s := by
  unfold str
  cases s
  rfl
theorem str_append (a b : List UInt8) : str a ++ str b = str (a ++ b) := by
  apply ByteArray.ext
  simp [str]

theorem conv_bytes {S : Nat → Prop} {w : World} {A : Option Addr} {l : List UInt8} {n : Nat} (h : Rd S w A (l.map bv)) (hn : l.length = n) (c : Nat) :
    (convert 36 9 (.slice A n c)).run Try.prog w = .ok (.string (str l)) w := by
  subst hn
  rw [run_convert_bytes_string w 36 9 5 A l.length c Try.underlying36 Try.underlying5 Try.underlying9]
  rcases A with _ | ad
  · have hl : l = [] := by
      rcases l with _ | ⟨x, l⟩
      · rfl
      · obtain ⟨_, h0, _⟩ := h (by simp)
        cases h0
    subst hl
    simp [Conv.bytesToString]
    rfl
  · have hc : (loadCells ad l.length).run Try.prog w = .ok ((l.map fun u => (u.toNat : Int)).map (Value.int .u8)).toArray w := by
      have := run_loadCells_list (P := Try.prog) w ad (l.map bv) (fun j v hj => by
        obtain ⟨ad', h0, _, _, hc⟩ := h (by have := (List.getElem?_eq_some_iff.1 hj).1; omega)
        injection h0 with h0
        subst h0
        exact hc j v hj)
      rw [List.length_map] at this
      rw [this, List.map_map]
      rfl
    rw [run_bytesToString w ad l.length c _ hc, foldl_push_bytes]
    have : (List.map (fun n : Int => UInt8.ofNat n.toNat) (List.map (fun u : UInt8 => (u.toNat : Int)) l)) = l := by
      rw [List.map_map]
      conv => rhs; rw [← List.map_id l]
      apply List.map_congr_left
      intro u _
      simp
    rw [this]
    simp [str, ByteArray.empty, ByteArray.emptyWithCapacity]
    rfl

theorem conv_string (w : World) (s : ByteArray) :
    (convert 9 36 (.string s)).run Try.prog w = .ok (.slice (some ⟨w.heap.size, 0, none⟩) s.size (grownCap w s.size 0 5)) (Lib.bytesWorld w 5 s) :=
  Lib.run_convert_string_bytes w _ _ _ s Try.underlying9 Try.underlying36 Try.underlying5

theorem Mod.bytes {F : Nat → Prop} {a w : World} (h : Mod F a w) (e : TypeId) (s : ByteArray) : Mod F a (Lib.bytesWorld w e s) :=
  ⟨h.os, h.tape, h.output, by rw [Lib.bytesWorld_size]; have := h.size; omega, fun i hi hn => (Lib.bytesWorld_at_old w e s i (Nat.lt_of_lt_of_le hi h.size)).trans (h.block i hi hn)⟩

theorem Rd.bytes (w : World) (e : TypeId) (s : ByteArray) : Rd (fun b => w.heap.size ≤ b) (Lib.bytesWorld w e s) (some ⟨w.heap.size, 0, none⟩) (s.data.toList.map bv) := fun _ => by
  refine ⟨_, rfl, Nat.le_refl _, by rw [Lib.bytesWorld_size]; show w.heap.size < _; omega, fun j u hu => ?_⟩
  have hlen : s.data.toList.length = s.size := Array.length_toList
  have hj : j < s.size := by
    have := (List.getElem?_eq_some_iff.1 hu).1
    rw [List.length_map] at this
    omega
  have e1 : (⟨w.heap.size, 0, none⟩ : Addr).add j = ⟨w.heap.size, j, none⟩ := by unfold Addr.add; split <;> simp_all
  rw [e1, Lib.bytesWorld_cell w e s j hj, ← hu]
  simp [bv, List.getD, hj]

end Go.Proofs.Ytjmehamkpmimkaa

namespace Go.Proofs.Ytjmehamkpmimkaa
open Go.RowKit Go.ChangeShapes Go.WideShapes Go.ChangeAt
open Go.ChangeMaps (open_string shut_string)

theorem own_ : ownKnob Try.prog.godebug = none := by kernel_rfl
theorem laidOut_ : laidOutB Try.prog = true := by kernel_rfl

theorem wf_u8 {x : Int} (h : (Lit.int .u8 x).wf = true) : 0 ≤ x ∧ x < 256 := by
  have := bounds_u8 h
  omega

/-- An argument of octets. -/
theorem open_octets {H : Type} {enc : TypeId × Value → H} {W : World} {a : Option Addr} {len cap : Nat} {d : DataW H} {p : List MemPlace}
    (h : DataW.Trod enc Try.prog W 0 (fun _ => true) true 36 (.slice a len cap) d p) :
    ∃ l : List UInt8, l.length = len ∧ len ≤ cap ∧ cap ≤ maxLen ∧ Rd All W a (l.map bv) := by
  obtain ⟨fuel, hf⟩ := h
  rcases open_ints Try.underlying36 Try.underlying5 (by kernel_rfl) hf with ⟨hcs, _⟩ | ⟨x, l, c, zs, hcs, _, hl, hm, hz, hx, hcell, hwz⟩
  · simp [Value.cells] at hcs
    obtain ⟨rfl, rfl, rfl⟩ := hcs
    exact ⟨[], rfl, Nat.le_refl _, by simp [maxLen], Rd.nil _ _ _⟩
  · simp [Value.cells] at hcs
    obtain ⟨rfl, rfl, rfl⟩ := hcs
    have hz' : zs.length = cap := by simpa using hz
    refine ⟨(zs.take len).map fun n => UInt8.ofNat n.toNat, by rw [List.length_map, List.length_take]; omega, hl, hm, fun hn => ?_⟩
    have hn' : 0 < len := by
      simp only [List.length_map, List.length_take] at hn
      omega
    have hb : x.block < W.heap.size := by
      have h0 := hcell 0 (by omega)
      rw [add_zero] at h0
      exact World.block_lt_of_cell? W x h0
    refine ⟨x, rfl, trivial, hb, fun j u hu => ?_⟩
    have hj : j < len := by
      have := (List.getElem?_eq_some_iff.1 hu).1
      simp only [List.length_map, List.length_take] at this
      omega
    rw [hcell j (by omega), ← hu]
    have hjz : j < zs.length := by omega
    have hw := wf_u8 (hwz zs[j] (List.getElem_mem hjz))
    simp [bv, hj, List.getD, hjz]
    omega

end Go.Proofs.Ytjmehamkpmimkaa

namespace Go.Proofs.Ytjmehamkpmimkaa
open Go.RowKit

/-- The octets of a number, so many, the highest first. -/
def beBytes : Nat → Nat → List UInt8
  | 0, _ => []
  | n + 1, x => UInt8.ofNat (x / 256 ^ n) :: beBytes n x
theorem beBytes_len (n x : Nat) : (beBytes n x).length = n := by
  induction n with
  | zero => rfl
  | succ n ih => rw [beBytes, List.length_cons, ih]

/-- A writer at g, its slice v: what it has written, its error; all of it from block B on. -/
def WriterAt (B : Nat) (w : World) (g : Nat) (v : Value) (l : List UInt8) (e : Int) : Prop :=
  Blk w g 131 #[v, .int .i64 e] ∧ w.ownsRow B 5 1 v l.length (l.map bv) ∧ B ≤ g

/-- The blocks of an object of a struct and a slice. -/
def Foot (g : Nat) (v : Value) : Nat → Prop := fun k => k = g ∨ v.ownBlock = some k

theorem WriterAt.keep {F : Nat → Prop} {B : Nat} {w w' : World} {g : Nat} {v : Value} {l : List UInt8} {e : Int} (h : WriterAt B w g v l e) (hm : Mod F w w') (hF : ∀ b, Foot g v b → ¬ F b) : WriterAt B w' g v l e := by
  obtain ⟨h1, h2, h3⟩ := h
  exact ⟨h1.keep hm (hF g (.inl rfl)), own_keep h2 hm (fun k hk => hF k (.inr hk)), h3⟩
theorem WriterAt.low {B : Nat} {w : World} {g : Nat} {v : Value} {l : List UInt8} {e : Int} (h : WriterAt B w g v l e) : ∀ k, Foot g v k → B ≤ k := by
  rintro k (rfl | hk)
  · exact h.2.2
  · exact (h.2.1.lt k hk).1
theorem WriterAt.lt {B : Nat} {w : World} {g : Nat} {v : Value} {l : List UInt8} {e : Int} (h : WriterAt B w g v l e) : ∀ k, Foot g v k → k < w.heap.size := by
  rintro k (rfl | hk)
  · exact h.1.lt
  · exact (h.2.1.lt k hk).2

/-- What a call on a writer leaves. -/
def WrLeft (B g : Nat) (w : World) (v : Value) (l : List UInt8) (e : Int) (r : Ending) (w' : World) : Prop :=
  r = .returned (.tuple #[]) ∧ ∃ v', WriterAt B w' g v' l e ∧ Mod (Foot g v) w w' ∧ ∀ k, v'.ownBlock = some k → v.ownBlock = some k ∨ w.heap.size ≤ k

set_option maxHeartbeats 1600000 in
set_option maxRecDepth 100000 in
theorem put_bad (B g : Nat) (v : Value) (l : List UInt8) (e : Int) (x size : Nat) (w : World) (h : WriterAt B w g v l e) (he : e ≠ 0) (hs : size ≤ 8) :
    Calls Try.prog 102 #[.pointer (some ⟨g, 0, none⟩), .int .u64 (x : Int), .int .i64 (size : Int)] w fun r w' => r = .returned (.tuple #[]) ∧ w = w' := by
  obtain ⟨h1, h2, h3⟩ := h
  have hc1 := h1.cell 1
  have he0 : (e == 0) = false := by simp; omega
  have HE := Lib.hid he
  clear h1 h2 he
  by_cases h0 : size = 0
  · subst h0
    go_enter Try.func102, Try.ntmps102
    go_wp2_with fail
    refine wp_loop_once ?_
    go_wp2_with fail
    go_end0
    exact ⟨rfl, rfl⟩
  · go_enter Try.func102, Try.ntmps102
    go_wp2_with fail
    refine wp_loop_once ?_
    go_wp2_with fail
    go_end0
    exact ⟨rfl, rfl⟩

theorem beBytes_u64 (x j : Nat) : Value.int IntKind.u8 ((x : Int) / 2 ^ (8 * j) % 256) = bv (UInt8.ofNat (x / 256 ^ j)) := by
  have e : (256 : Nat) ^ j = 2 ^ (8 * j) := by rw [Nat.pow_mul]
  unfold bv
  rw [UInt8.toNat_ofNat', e]
  simp

set_option maxHeartbeats 1600000 in
set_option maxRecDepth 100000 in
theorem put_ok (B g : Nat) (v0 : Value) (l : List UInt8) (x size : Nat) (w : World) (h : WriterAt B w g v0 l 0) (hx : x < 18446744073709551616) (hs : size ≤ 8) (hB : B ≤ w.heap.size) (hbig : l.length + size ≤ 1000000000) :
    Calls Try.prog 102 #[.pointer (some ⟨g, 0, none⟩), .int .u64 (x : Int), .int .i64 (size : Int)] w (WrLeft B g w v0 (l ++ beBytes size x) 0) := by
  obtain ⟨i0, hi, hz0, hz1, hz2⟩ := info_parts u8_info
  have H := Lib.hid h
  have HX := Lib.hid hx
  clear h hx
  go_enter Try.func102, Try.ntmps102
  go_wp2_with fail
  go_loopw [6] (fun i wr => ∃ (r : Nat) (m : List UInt8) (v : Value), r ≤ size ∧ i = .int .i64 ((r : Int) - 1) ∧ WriterAt B wr g v m 0 ∧ m ++ beBytes r x = l ++ beBytes size x ∧ Mod (Foot g v0) w wr ∧ ∀ k, v.ownBlock = some k → v0.ownBlock = some k ∨ w.heap.size ≤ k) (fun i _ => (intOf i + 1).toNat)
  case atStart => exact ⟨size, l, v0, Nat.le_refl _, rfl, H.out, rfl, Mod.refl _ _, fun _ h => .inl h⟩
  case round =>
    obtain ⟨r, m, v, hr, rfl, hw, hm, hmod, hat0⟩ := hrel
    have HM := Lib.hid hm
    have HMOD := Lib.hid hmod
    have HAT0 := Lib.hid hat0
    obtain ⟨h1, h2, h3⟩ := hw
    have hlen : m.length ≤ l.length + size := by
      have := congrArg List.length hm
      simp [beBytes_len] at this
      omega
    clear hm hmod hat0
    rcases r with _ | j
    · have hfin : m = l ++ beBytes size x := by have := HM.out; simpa [beBytes] using this
      have HF := Lib.hid hfin
      have H1 := Lib.hid h1
      have H2 := Lib.hid h2
      clear hfin h1 h2
      go_wp2_with fail
      go_end0
      rw [← HF.out]
      exact ⟨rfl, v, ⟨H1.out, H2.out, h3⟩, HMOD.out, HAT0.out⟩
    · have hj : j < 8 := by omega
      have hj1 : ((j + 1 : Nat) : Int) - 1 = (j : Int) := by omega
      rw [hj1]
      have hc0 := h1.cell 0
      have hc1 := h1.cell 1
      have hf0 := h1.frozen 0
      have hgl := h1.lt
      have hne : ¬ v.ownBlock = some g := own_blk_ne h2 h1 (by decide)
      have H1 := Lib.hid h1
      have H2 := Lib.hid h2
      clear h1 h2 hj1
      go_wp2_with fail
      have hw8 : IntKind.i64.wrap (8 * (j : Int)) = 8 * (j : Int) := IntWalk.i64_in _ (by omega)
      have h80 : (0 : Int) ≤ 8 * (j : Int) := by omega
      have h81 : 8 * (j : Int) ≤ 64 := by omega
      go_region_law (refine step_append1 _ rfl (.tmp 24) (.tmp 30) 36 rfl B 5 i0 (.int .u8 0) 1 Try.underlying36 hi hz0 hz1 hz2 rfl v m.length (m.map bv) rfl (own_keep H2.out (((Mod.refl Nil wr).drew).alloc _) (fun _ _ => id)) All _ 1 1 [bv (UInt8.ofNat (x / 256 ^ j))] rfl rfl (by rw [← beBytes_u64]; exact Rd.cells1 _ _ _) (by intro u hu; simp at hu; subst hu; rfl) (by omega) (by simp only [maxLen]; omega) (by have := HMOD.out.size; simp; omega) ?_; intro A' c' w' hown' hmod' hat'; have hb' := Blk.keep ((H1.out.drew).alloc _) hmod' hne; have hc0' := hb'.cell 0; have hf0' := hb'.frozen 0; have HB' := Lib.hid hb'; have HOWN' := Lib.hid hown'; have HMOD' := Lib.hid hmod'; have HAT' := Lib.hid hat'; clear hb' hown' hmod' hat')
      all_goals
        have hmod0 : Mod (Foot g v0) w w' := ((HMOD.out.drew).alloc _).trans' HMOD'.out (fun _ _ h => h) (fun k hk hkv => (HAT0.out k hkv).elim (fun h => .inr h) (fun h => by omega))
        have HMOD0 := Lib.hid hmod0
        clear hmod0
        go_wp2_with fail
        go_roundw
        case rel =>
          refine ⟨j, m ++ [UInt8.ofNat (x / 256 ^ j)], .slice A' (m.length + 1) c', by omega, rfl, ⟨?_, ?_, h3⟩, ?_, ?_, ?_⟩
          · simpa using HB'.out.set_ 0 (.slice A' (m.length + 1) c')
          · have ho : w'.ownsRow B 5 1 (.slice A' (m.length + 1) c') (m.length + 1) (m.map bv ++ [bv (UInt8.ofNat (x / 256 ^ j))]) := HOWN'.out
            have hk := own_keep ho ((Mod.refl (fun k => k = g) w').set (p := ⟨g, 0, none⟩) (.inl rfl) (.slice A' (m.length + 1) c')) (fun k hk hkg => by
              subst hkg
              rcases HAT'.out k hk with h | h
              · exact hne h
              · simp at h <;> omega)
            exact (by simpa using hk)
          · have := HM.out
            rw [beBytes] at this
            rw [← this]
            simp
          · exact HMOD0.out.set (p := ⟨g, 0, none⟩) (.inl (.inl rfl)) _
          · intro k hk
            rcases HAT'.out k hk with h | h
            · exact HAT0.out k h
            · have := HMOD.out.size
              simp at h
              exact .inr (by omega)
        case measure => simp [intOf] <;> omega

end Go.Proofs.Ytjmehamkpmimkaa

namespace Go.Proofs.Ytjmehamkpmimkaa
open Go.RowKit

set_option maxHeartbeats 800000 in
theorem clone_any (S : Nat → Prop) (A : Option Addr) (n c : Nat) (l : List UInt8) (w : World) (hn : l.length = n) (hbig : n ≤ 140737488355328) (hr : Rd S w A (l.map bv)) :
    Calls Try.prog 70 #[.slice A n c] w fun e w' => ∃ v, e = .returned v ∧ w'.ownsRow w.heap.size 5 1 v n (l.map bv) ∧ Mod Nil w w' := by
  obtain ⟨i0, hi, hz0, hz1, hz2⟩ := info_parts u8_info
  have q22 : ∀ (w : World) (a : Option Addr) (n c n' c' : Nat), (binOp .eql 36 (.slice a n c) (.slice none n' c')).run Try.prog w = .ok (.bool a.isNone) w := fun w a n c n' c' => Lib.run_eql_slice_nil w _ _ a n c n' c' Try.underlying36
  have z5 : ∀ w, Sem.run Try.prog (Go.sizeOf 5) w = .ok 1 w := fun w => by simp [Go.sizeOf, typeInfo, hi, hz1]
  rcases A with _ | a
  · have hn0 : n = 0 := by
      rcases Nat.eq_zero_or_pos n with h0 | h0
      · exact h0
      · obtain ⟨_, h, _⟩ := hr (by simp; omega)
        cases h
    subst hn0
    have hl : l = [] := List.eq_nil_of_length_eq_zero hn
    subst hl
    clear hn hr
    go_enter Try.func70, Try.ntmps70
    go_wp2
    go_ret
    exact ⟨_, rfl, World.ownsRow_nil _ _ _ _, Mod.refl _ _⟩
  · have HR := Lib.hid hr
    have HN := Lib.hid hn
    clear hr hn
    go_enter Try.func70, Try.ntmps70
    go_wp2_with (at_builtin; refine wpList_append1 _ rfl _ _ 36 rfl w.heap.size 5 i0 (.int .u8 0) 1 Try.underlying36 hi hz0 hz1 hz2 rfl _ _ _ rfl (World.ownsRow_made w #[] 0 (Nat.le_refl _) (Nat.zero_le _) rfl) S (some a) n c (l.map bv) rfl ?qc1 ?qc2 ?qc3 ?qc4 ?qc5 ?qc6 ?_)
    case qc1 => simpa using HN.out
    case qc2 => exact HR.out.keep0 ((Mod.refl _ _).alloc _)
    case qc3 => exact bv_one l
    case qc4 => omega
    case qc5 => simp only [maxLen]; omega
    case qc6 => simp
    intro v' w1 hown hgrow hat
    go_wp2
    go_ret
    exact ⟨v', rfl, by simpa using hown, ((Mod.refl Nil w).alloc _).trans' (Mod.of_grown hgrow) (fun _ _ h => h) (fun i hi e => by simp [Value.ownBlock] at e; omega)⟩

/-- The octets of a sum. -/
def sumOctets (n : Nat) : List UInt8 := [UInt8.ofNat n, UInt8.ofNat (n / 256), UInt8.ofNat (n / 65536), UInt8.ofNat (n / 16777216)]

set_option maxHeartbeats 800000 in
theorem octets_any (n : Nat) (w : World) (hn : n < 4294967296) :
    Calls Try.prog 96 #[.int .u32 (n : Int)] w fun e w' => ∃ v, e = .returned v ∧ w'.ownsRow w.heap.size 5 1 v 4 ((sumOctets n).map bv) ∧ Mod Nil w w' := by
  go_enter Try.func96, Try.ntmps96
  go_wp2
  go_ret
  refine ⟨_, rfl, ?_, (Mod.refl _ _).alloc _⟩
  have h := World.ownsRow_lit (base := w.heap.size) (e := 5) (size := 1) w #[Value.int IntKind.u8 ((n : Int) % 256), Value.int IntKind.u8 ((n : Int) / 256 % 256), Value.int IntKind.u8 ((n : Int) / 65536 % 256), Value.int IntKind.u8 ((n : Int) / 16777216)] 4 (Nat.le_refl _) (by simp [maxLen]) rfl
  have e : (sumOctets n).map bv = #[Value.int IntKind.u8 ((n : Int) % 256), Value.int IntKind.u8 ((n : Int) / 256 % 256), Value.int IntKind.u8 ((n : Int) / 65536 % 256), Value.int IntKind.u8 ((n : Int) / 16777216)].toList := by
    simp [sumOctets, bv]; omega
  rw [e]
  exact h


/-! ### Sum -/
theorem nat_not32 {z : Nat} (h : z < 4294967296) : 4294967295 ^^^ z = 4294967295 - z := by
  have e := congrArg BitVec.toNat (BitVec.allOnes_xor (x := BitVec.ofNat 32 z))
  rw [BitVec.toNat_xor, BitVec.toNat_not, BitVec.toNat_allOnes, BitVec.toNat_ofNat, Nat.mod_eq_of_lt (by omega)] at e
  simpa using e
theorem u32_not {z : Nat} (h : z < 4294967296) : bits .xor .u32 IntKind.u32.max (z : Int) = ((4294967295 - z : Nat) : Int) := by
  rw [← nat_not32 h]
  exact u32_xor_nat 4294967295 z (by omega) h
/-- One bit of a sum, as the code turns it. -/
def crcBit (r : Nat) : Nat := if r % 2 = 1 then (r / 2) ^^^ 3988292384 else r / 2
def crcBits : Nat → Nat → Nat
  | 0, r => r
  | k + 1, r => crcBits k (crcBit r)
def crcByte (r : Nat) (c : UInt8) : Nat := crcBits 8 (r ^^^ c.toNat)
def crcFold (l : List UInt8) (r : Nat) : Nat := l.foldl crcByte r
def crcSum (l : List UInt8) : Nat := 4294967295 - crcFold l 4294967295

theorem crcBit_lt {r : Nat} (h : r < 4294967296) : crcBit r < 4294967296 := by
  unfold crcBit
  split
  · exact Nat.xor_lt_two_pow (n := 32) (by omega) (by omega)
  · omega
theorem crcBits_lt (k : Nat) : ∀ {r : Nat}, r < 4294967296 → crcBits k r < 4294967296 := by
  induction k with
  | zero => exact fun h => h
  | succ k ih => exact fun h => ih (crcBit_lt h)
theorem crcBits_succ (k : Nat) : ∀ r, crcBits (k + 1) r = crcBit (crcBits k r) := by
  induction k with
  | zero => exact fun _ => rfl
  | succ k ih => exact fun r => ih (crcBit r)
theorem crcFold_snoc (l : List UInt8) (c : UInt8) (r : Nat) : crcFold (l ++ [c]) r = crcByte (crcFold l r) c := by simp [crcFold]
theorem crcFold_append (l m : List UInt8) (r : Nat) : crcFold (l ++ m) r = crcFold m (crcFold l r) := by simp [crcFold]
theorem crcByte_lt {r : Nat} (c : UInt8) (h : r < 4294967296) : crcByte r c < 4294967296 :=
  crcBits_lt 8 (Nat.xor_lt_two_pow (n := 32) (by omega) (by have := c.toNat_lt; omega))
theorem crcFold_lt (l : List UInt8) : ∀ {r : Nat}, r < 4294967296 → crcFold l r < 4294967296 := by
  induction l with
  | nil => exact fun h => h
  | cons c l ih => exact fun h => ih (crcByte_lt c h)
theorem crcSum_lt (l : List UInt8) : crcSum l < 4294967296 := by unfold crcSum; omega

/-- The bytes are handed over in parts; each part is one of a slice of slices. -/
def Parts (S : Nat → Prop) (w : World) (A : Option Addr) (ps : List (List UInt8)) : Prop :=
  ∃ vs : List Value, Rd S w A vs ∧ vs.length = ps.length ∧ ∀ (i : Nat) (p : List UInt8), ps[i]? = some p → ∃ B c, vs[i]? = some (Value.slice B p.length c) ∧ p.length ≤ maxLen ∧ Rd S w B (p.map bv)

set_option maxHeartbeats 1600000 in
theorem sum_any (S : Nat → Prop) (A : Option Addr) (n c : Nat) (ps : List (List UInt8)) (w : World) (hn : ps.length = n) (hbig : n ≤ 1000000) (hr : Parts S w A ps) :
    Calls Try.prog 48 #[.slice A n c] w fun e w' => e = .returned (.int .u32 (crcSum ps.flatten : Nat)) ∧ w = w' := by
  obtain ⟨vs, hA, hvl, hvs⟩ := hr
  go_enter Try.func48, Try.ntmps48
  go_wp2
  go_loop [3, 10] (fun r i => ∃ k : Nat, k ≤ n ∧ i = .int .i64 k ∧ r = .int .u32 (crcFold (ps.take k).flatten 4294967295 : Nat)) (fun _ i => n - (intOf i).toNat)
  case atStart => exact ⟨0, Nat.zero_le _, rfl, rfl⟩
  case round =>
    obtain ⟨k, hk, rfl, rfl⟩ := hrel
    by_cases hlt : k < n
    · obtain ⟨p, hp⟩ : ∃ p, ps[k]? = some p := ⟨ps[k]'(by omega), List.getElem?_eq_getElem (by omega)⟩
      obtain ⟨B, cB, hB, hpl, hRB⟩ := hvs k p hp
      obtain ⟨ad, rfl, _, _, hcell⟩ := hA.at_ hB
      obtain ⟨R, hR⟩ : ∃ R, R = crcFold (List.take k ps).flatten 4294967295 := ⟨_, rfl⟩
      have hRlt : R < 4294967296 := by rw [hR]; exact crcFold_lt _ (by omega)
      have HR := Lib.hid hR
      rw [← hR]
      clear hR
      have HP := Lib.hid hp
      clear hp hvs hA hB
      unfold maxLen at hpl
      go_wp2
      go_loop [3, 16] (fun r i => ∃ j : Nat, j ≤ p.length ∧ i = .int .i64 j ∧ r = .int .u32 (crcFold (p.take j) R : Nat)) (fun _ i => p.length - (intOf i).toNat)
      case atStart => exact ⟨0, Nat.zero_le _, rfl, rfl⟩
      case round =>
        obtain ⟨j, hj, rfl, rfl⟩ := hrel
        by_cases hjl : j < p.length
        · have hcb : (p.map bv)[j]? = some (.int .u8 (p[j].toNat : Int)) := by simp [bv, List.getElem?_map, List.getElem?_eq_getElem hjl]
          obtain ⟨bd, rfl, _, _, hbc⟩ := hRB.at_ hcb
          obtain ⟨R1, hR1⟩ : ∃ R1, R1 = crcFold (List.take j p) R := ⟨_, rfl⟩
          have hR1lt : R1 < 4294967296 := by rw [hR1]; exact crcFold_lt _ hRlt
          have HR1 := Lib.hid hR1
          rw [← hR1]
          clear hR1 hcb
          obtain ⟨ch, hch⟩ : ∃ ch : UInt8, ch = p[j] := ⟨_, rfl⟩
          have HC := Lib.hid hch
          rw [← hch] at hbc
          clear hch
          have hc256 := ch.toNat_lt
          have hx : bits .xor .u32 (R1 : Int) (ch.toNat : Int) = ((R1 ^^^ ch.toNat : Nat) : Int) := u32_xor_nat _ _ hR1lt (by omega)
          obtain ⟨X0, hX0⟩ : ∃ X0, X0 = R1 ^^^ ch.toNat := ⟨_, rfl⟩
          have hX0lt : X0 < 4294967296 := by rw [hX0]; exact Nat.xor_lt_two_pow (n := 32) (by omega) (by omega)
          rw [← hX0] at hx
          have HX0 := Lib.hid hX0
          clear hX0
          go_wp2
          go_loop [3, 24] (fun r i => ∃ m : Nat, m ≤ 8 ∧ i = .int .i64 m ∧ r = .int .u32 (crcBits m X0 : Nat)) (fun _ i => 8 - (intOf i).toNat)
          case atStart => exact ⟨0, Nat.zero_le _, rfl, rfl⟩
          case round =>
            obtain ⟨m, hm, rfl, rfl⟩ := hrel
            by_cases hm8 : m < 8
            · obtain ⟨Y, hY⟩ : ∃ Y, Y = crcBits m X0 := ⟨_, rfl⟩
              have hYlt : Y < 4294967296 := by rw [hY]; exact crcBits_lt _ hX0lt
              rw [← hY]
              have hs := crcBits_succ m X0
              rw [← hY] at hs
              have HS := Lib.hid hs
              clear hs hY
              have hb : bits .and .u32 (Y : Int) 1 = ((Y % 2 : Nat) : Int) := by rw [show (1 : Int) = ((1 : Nat) : Int) from rfl, u32_and_nat _ _ hYlt (by omega), nat_mask1]
              have hp : bits .xor .u32 ((Y : Int) / 2) 3988292384 = ((Y / 2 ^^^ 3988292384 : Nat) : Int) := u32_xor_nat (Y / 2) 3988292384 (by omega) (by omega)
              by_cases hodd : Y % 2 = 1
              · have ht : (((Y % 2 : Nat) : Int) == 1) = true := by rw [hodd]; rfl
                have HO := Lib.hid hodd
                clear hodd
                go_wp2
                go_round
                case rel => exact ⟨m + 1, by omega, by go_num, by rw [HS.out]; unfold crcBit; rw [if_pos HO.out]⟩
                case measure => simp [intOf]; omega
              · have ht : (((Y % 2 : Nat) : Int) == 1) = false := by simp; omega
                have HO := Lib.hid hodd
                clear hodd
                go_wp2
                go_round
                case rel => exact ⟨m + 1, by omega, by go_num, by rw [HS.out]; unfold crcBit; rw [if_neg HO.out]; rfl⟩
                case measure => simp [intOf]; omega
            · have : m = 8 := by omega
              subst this
              go_wp2
              go_round
              case rel =>
                refine ⟨j + 1, by omega, by go_num, ?_⟩
                rw [List.take_succ_eq_append_getElem hjl, crcFold_snoc, ← HR1.out, ← HC.out, crcByte, ← HX0.out]
              case measure => simp [intOf]; omega
        · go_wp2
          go_round
          case rel =>
            refine ⟨k + 1, by omega, by go_num, ?_⟩
            have hpk : ps[k]'(by omega) = p := (List.getElem?_eq_some_iff.1 HP.out).2
            rw [List.take_succ_eq_append_getElem (by omega), List.flatten_append, hpk, crcFold_append, ← HR.out, List.take_of_length_le (by omega)]
            simp
          case measure => simp [intOf]; omega
    · have hfin : crcFold (ps.take k).flatten 4294967295 = crcFold ps.flatten 4294967295 := by rw [List.take_of_length_le (by omega)]
      have hflt := crcFold_lt ps.flatten (r := 4294967295) (by omega)
      rw [hfin]
      obtain ⟨Z, hZ⟩ : ∃ Z, Z = crcFold ps.flatten 4294967295 := ⟨_, rfl⟩
      rw [← hZ] at hflt ⊢
      have HZ := Lib.hid hZ
      clear hZ hfin
      go_wp2
      go_ret
      refine ⟨ret_int ?_, rfl⟩
      rw [u32_not hflt, HZ.out]
      rfl

/-! ### calls of Sum -/
theorem Rd.cells (w : World) (cs : Array Value) (t : TypeId) (fr : Nat × Nat) {g : Nat} (hg : g = w.heap.size) : Rd All (w.alloc (.cells cs t fr)) (some ⟨g, 0, none⟩) cs.toList := fun _ => by
  subst hg
  exact ⟨_, rfl, trivial, by simp, World.news_of_block (heap_alloc_new w (.cells cs t fr))⟩

theorem parts_nil (S : Nat → Prop) (w : World) (A : Option Addr) : Parts S w A [] := ⟨[], Rd.nil _ _ _, rfl, fun i p h => by simp at h⟩

theorem parts_one {S : Nat → Prop} {w : World} {A : Option Addr} {l : List UInt8} {n c : Nat} {t : TypeId} (h : Rd S w A (l.map bv)) (hn : l.length = n) (hl : n ≤ maxLen) {g : Nat} (hg : g = w.heap.size) :
    Parts All (w.alloc (.cells #[.slice A n c] t)) (some ⟨g, 0, none⟩) [l] := by
  subst hn
  refine ⟨[.slice A l.length c], Rd.cells w #[.slice A l.length c] t (0, 0) hg, rfl, fun i p hp => ?_⟩
  match i, hp with
  | 0, hp =>
    obtain rfl : l = p := by simpa using hp
    exact ⟨A, c, rfl, hl, (h.mono (fun _ _ _ => trivial)).keep0 ((Mod.refl _ _).alloc _)⟩

theorem parts_two {S : Nat → Prop} {w : World} {A B : Option Addr} {l m : List UInt8} {n c k d : Nat} {t : TypeId} (h : Rd S w A (l.map bv)) (h' : Rd S w B (m.map bv)) (hn : l.length = n) (hk : m.length = k) (hl : n ≤ maxLen) (hl' : k ≤ maxLen) {g : Nat} (hg : g = w.heap.size) :
    Parts All (w.alloc (.cells #[.slice A n c, .slice B k d] t)) (some ⟨g, 0, none⟩) [l, m] := by
  subst hn hk
  refine ⟨[.slice A l.length c, .slice B m.length d], Rd.cells w #[.slice A l.length c, .slice B m.length d] t (0, 0) hg, rfl, fun i p hp => ?_⟩
  match i, hp with
  | 0, hp =>
    obtain rfl : l = p := by simpa using hp
    exact ⟨A, c, rfl, hl, (h.mono (fun _ _ _ => trivial)).keep0 ((Mod.refl _ _).alloc _)⟩
  | 1, hp =>
    obtain rfl : m = p := by simpa using hp
    exact ⟨B, d, rfl, hl', (h'.mono (fun _ _ _ => trivial)).keep0 ((Mod.refl _ _).alloc _)⟩

theorem Parts.keep0 {S : Nat → Prop} {w w' : World} {A : Option Addr} {ps : List (List UInt8)} (h : Parts S w A ps) (hm : Mod Nil w w') : Parts S w' A ps := by
  obtain ⟨vs, h1, h2, h3⟩ := h
  refine ⟨vs, h1.keep0 hm, h2, fun i p hp => ?_⟩
  obtain ⟨B, c, h4, h5, h6⟩ := h3 i p hp
  exact ⟨B, c, h4, h5, h6.keep0 hm⟩
/-- Parts, as a value. -/
def IsParts (ps : List (List UInt8)) (v : Value) (w : World) : Prop := ∃ A c, v = .slice A ps.length c ∧ Parts All w A ps
theorem IsParts.keep0 {ps : List (List UInt8)} {v : Value} {w w' : World} (h : IsParts ps v w) (hm : Mod Nil w w') : IsParts ps v w' := by
  obtain ⟨A, c, h1, h2⟩ := h
  exact ⟨A, c, h1, h2.keep0 hm⟩

theorem crc_example : crcSum [49, 50, 51, 52, 53, 54, 55, 56, 57] = 3421780262 := by decide +kernel

end Go.Proofs.Ytjmehamkpmimkaa

namespace Go.Proofs.Ytjmehamkpmimkaa
open Go.RowKit

/-- What a writer has written, and its error. -/
abbrev WSt := List UInt8 × Int
def wPut (size x : Nat) (s : WSt) : WSt := if s.2 = 0 then (s.1 ++ beBytes size x, 0) else s
def wNum (n : Int) (s : WSt) : WSt := if n < 0 ∨ 2147483647 < n then (s.1, 2) else wPut 4 n.toNat s
/-- An int's 64 bits. -/
def bits64 (n : Int) : Nat := (n % 18446744073709551616).toNat
def wInt (n : Int) (s : WSt) : WSt := wPut 8 (bits64 n) s
def wText (t : List UInt8) (s : WSt) : WSt := if (wNum t.length s).2 = 0 then ((wNum t.length s).1 ++ t, 0) else wNum t.length s
def wTexts (l : List (List UInt8)) (s : WSt) : WSt := l.foldl (fun s t => wText t s) (wNum l.length s)

theorem bits64_lt (n : Int) : bits64 n < 18446744073709551616 := by unfold bits64; omega

def WrAt (B : Nat) (w : World) (g : Nat) (v : Value) (s : WSt) : Prop := WriterAt B w g v s.1 s.2

/-- What a call on a writer leaves. -/
def WrPost (B g : Nat) (w : World) (v : Value) (s : WSt) (r : Ending) (w' : World) : Prop := WrLeft B g w v s.1 s.2 r w'

theorem WrAt.keep {F : Nat → Prop} {B : Nat} {w w' : World} {g : Nat} {v : Value} {s : WSt} (h : WrAt B w g v s) (hm : Mod F w w') (hF : ∀ b, Foot g v b → ¬ F b) : WrAt B w' g v s := WriterAt.keep h hm hF

theorem put_any (B g : Nat) (v : Value) (s : WSt) (x size : Nat) (w : World) (h : WrAt B w g v s) (hx : x < 18446744073709551616) (hs : size ≤ 8) (hB : B ≤ w.heap.size) (hbig : s.1.length + size ≤ 1000000000) :
    Calls Try.prog 102 #[.pointer (some ⟨g, 0, none⟩), .int .u64 (x : Int), .int .i64 (size : Int)] w (WrPost B g w v (wPut size x s)) := by
  by_cases h0 : s.2 = 0
  · obtain ⟨l, e⟩ := s
    obtain rfl : e = 0 := h0
    have : wPut size x (l, 0) = (l ++ beBytes size x, 0) := by simp [wPut]
    rw [this]
    exact put_ok B g v l x size w h hx hs hB hbig
  · refine (put_bad B g v s.1 s.2 x size w h h0 hs).mono ?_
    rintro r w' ⟨rfl, rfl⟩
    have : wPut size x s = s := by unfold wPut; rw [if_neg h0]
    rw [this]
    exact ⟨rfl, v, h, Mod.refl _ _, fun _ h => .inl h⟩

set_option maxHeartbeats 1600000 in
set_option maxRecDepth 100000 in
theorem wnum_any (B g : Nat) (v : Value) (s : WSt) (n : Int) (w : World) (h : WrAt B w g v s) (hB : B ≤ w.heap.size) (hbig : s.1.length + 4 ≤ 1000000000) :
    Calls Try.prog 87 #[.pointer (some ⟨g, 0, none⟩), .int .i64 n] w (WrPost B g w v (wNum n s)) := by
  by_cases hn : n < 0 ∨ 2147483647 < n
  · have hw : wNum n s = (s.1, 2) := by unfold wNum; rw [if_pos hn]
    rw [hw]
    obtain ⟨h1, h2, h3⟩ := h
    have hc1 := h1.cell 1
    have hf1 := h1.frozen 1
    have hset := h1.set_ 1 (.int .i64 2)
    have hne : ¬ v.ownBlock = some g := own_blk_ne h2 h1 (by decide)
    have hw' : WrAt B (w.setCell ⟨g, 1, none⟩ (.int .i64 2)) g v (s.1, 2) :=
      ⟨by simpa using hset, own_keep h2 ((Mod.refl (fun k => k = g) w).set (p := ⟨g, 1, none⟩) (.inl rfl) _) (fun k hk hkg => hne (by rw [hk, hkg])), h3⟩
    have HW' := Lib.hid hw'
    clear h1 h2 hset hne hw hw'
    have hcall : Calls Try.prog 102 #[.pointer (some ⟨g, 0, none⟩), .int .u64 ((bits64 n : Nat) : Int), .int .i64 4] (w.setCell ⟨g, 1, none⟩ (.int .i64 2)) (WrPost B g (w.setCell ⟨g, 1, none⟩ (.int .i64 2)) v (s.1, 2)) :=
      put_any B g v (s.1, 2) (bits64 n) 4 _ HW'.out (bits64_lt n) (by omega) (by simpa [World.setCell] using hB) hbig
    have HC := Lib.hid hcall
    clear hcall
    have hconv : IntKind.u64.wrap n = ((bits64 n : Nat) : Int) := by
      simp only [IntKind.wrap, IntKind.bits, IntKind.signed, bits64]
      simp
      omega
    rcases hn with hn | hn
    · have hn' : ¬ 2147483647 < n := by omega
      go_enter Try.func87, Try.ntmps87
      go_wp2_with fail
      refine HC.out.mono ?_
      rintro r w' ⟨rfl, v', hw2, hm2, hat2⟩
      have HW2 := Lib.hid hw2
      have HM2 := Lib.hid hm2
      have HAT2 := Lib.hid hat2
      clear hw2 hm2 hat2
      go_wp2_with fail
      go_end0
      exact ⟨rfl, v', HW2.out, ((Mod.refl (Foot g v) w).set (p := ⟨g, 1, none⟩) (.inl (.inl rfl)) _).trans HM2.out, by simpa [World.setCell] using HAT2.out⟩
    · have hn' : ¬ n < 0 := by omega
      go_enter Try.func87, Try.ntmps87
      go_wp2_with fail
      refine HC.out.mono ?_
      rintro r w' ⟨rfl, v', hw2, hm2, hat2⟩
      have HW2 := Lib.hid hw2
      have HM2 := Lib.hid hm2
      have HAT2 := Lib.hid hat2
      clear hw2 hm2 hat2
      go_wp2_with fail
      go_end0
      exact ⟨rfl, v', HW2.out, ((Mod.refl (Foot g v) w).set (p := ⟨g, 1, none⟩) (.inl (.inl rfl)) _).trans HM2.out, by simpa [World.setCell] using HAT2.out⟩
  · obtain ⟨k, rfl⟩ := Int.eq_ofNat_of_zero_le (show 0 ≤ n by omega)
    have hw : wNum (k : Int) s = wPut 4 k s := by unfold wNum; rw [if_neg hn]; rfl
    rw [hw]
    have hk : k ≤ 2147483647 := by omega
    have HC := Lib.hid (put_any B g v s k 4 w h (by omega) (by omega) hB hbig)
    clear hn hw h
    go_enter Try.func87, Try.ntmps87
    go_wp2_with fail
    refine HC.out.mono ?_
    rintro r w' ⟨rfl, v', hw2, hm2, hat2⟩
    have HW2 := Lib.hid hw2
    have HM2 := Lib.hid hm2
    have HAT2 := Lib.hid hat2
    clear hw2 hm2 hat2
    go_wp2_with fail
    go_end0
    exact ⟨rfl, v', HW2.out, HM2.out, HAT2.out⟩

theorem wbytes_any (B g : Nat) (v : Value) (s : WSt) (w : World) (h : WrAt B w g v s) (hbig : s.1.length ≤ 1000000000) :
    Calls Try.prog 88 #[.pointer (some ⟨g, 0, none⟩)] w fun r w' => ∃ v, r = .returned v ∧ w'.ownsRow w.heap.size 5 1 v s.1.length (s.1.map bv) ∧ Mod Nil w w' := by
  obtain ⟨h1, h2, h3⟩ := h
  have hc0 := h1.cell 0
  obtain ⟨A, c, rfl, _, _⟩ := own_slice h2
  have HR := Lib.hid (Rd.of_own h2)
  clear h1 h2
  go_enter Try.func88, Try.ntmps88
  go_wp2_with fail
  refine (clone_any _ A _ c s.1 _ rfl (by omega) HR.out).mono ?_
  rintro r w' ⟨v', rfl, ho, hm⟩
  have HO := Lib.hid ho
  have HM := Lib.hid hm
  clear ho hm
  go_wp2_with fail
  go_ret
  exact ⟨v', rfl, HO.out, HM.out⟩

/-- append(b, s...), s a string, and where the new slice lies. -/
theorem run_append_string {P : Program} (w : World) (base : Nat) (t u ty e : TypeId) (i : TypeInfo) (ht : P.underlying t = some (.slice e)) (hu : P.underlying u = some .string) (hi : P.info? e = some i) (hz : i.zero = some (.int .u8 0))
    (hsize : i.size = 1) (hby : i.bytes = 1)
    (v : Value) (n : Nat) (xs : List Value) (hown : w.ownsRow base e 1 v n xs) (s : ByteArray)
    (h63 : n + s.size ≤ maxLen) (hbytes : n + s.size ≤ 140737488355328) (hbase : base ≤ w.heap.size) :
    ∃ A' c' w', (Builtin.append_ #[t, u] ty #[v, .string s]).run P w = .ok (.slice A' (n + s.size) c') w' ∧ w'.ownsRow base e 1 (.slice A' (n + s.size) c') (n + s.size) (xs ++ Lib.strCells s) ∧ Mod (fun k => v.ownBlock = some k) w w' ∧
      (∀ k, (Value.slice A' (n + s.size) c').ownBlock = some k → v.ownBlock = some k ∨ w.heap.size ≤ k) := by
  -- the old slice's own block is the base that tells
  obtain ⟨v', w', hr, h2, h3, h4⟩ := Lib.run_append_own_string (P := P) w base t u ty e i ht hu hi hz hsize hby v n xs hown s h63 hbytes hbase
  obtain ⟨A', c', rfl, _, _⟩ := own_slice h2
  refine ⟨A', c', w', hr, h2, Mod.of_grown h3, fun k hk => ?_⟩
  rcases hown.2 with ⟨rfl, hn0⟩ | ⟨g, cap, cur, rfl, hbg, hg, hnc, hcm, hcs, htake⟩
  · -- nil: all is new, by the same law at a higher base
    obtain ⟨v2, w2, hr2, h22, _, _⟩ := Lib.run_append_own_string (P := P) w w.heap.size t u ty e i ht hu hi hz hsize hby (.slice none 0 0) n xs ⟨hown.1, .inl ⟨rfl, hn0⟩⟩ s h63 hbytes (Nat.le_refl _)
    rw [hr] at hr2
    injection hr2 with e1 e2
    subst e1 e2
    exact .inr (h22.lt k hk).1
  · by_cases hroom : n + s.size ≤ cap
    · have hcs' : cur.size = cap := by simpa using hcs
      have hr2 := Lib.run_append_room_string (P := P) w t u ty e i ht hu hi hsize g n cap cur hg s hroom (by omega)
      rw [hr] at hr2
      injection hr2 with e1 e2
      injection e1 with e3 e4 e5
      subst e3
      exact .inl (by simpa [Value.ownBlock] using hk)
    · have holds : ∀ j u, xs[j]? = some u → w.cell? ((⟨g, 0, none⟩ : Addr).add j) = some u := hown.cells (g := g) rfl
      have hxl : xs.length = n := by simpa using hown.1
      have hr2 := Lib.run_append_grow_string (P := P) w t u ty e i (.int .u8 0) ht hu hi hz ⟨g, 0, none⟩ n cap xs (by rw [hsize]; simpa using hxl) holds s (by omega) (by simp only [maxLen] at h63; omega) (by rw [hby]; exact growslice_fits (by omega) (by omega))
      rw [hr] at hr2
      injection hr2 with e1 e2
      injection e1 with e3 e4 e5
      subst e3
      have : k = w.heap.size := by simpa [Value.ownBlock, eq_comm] using hk
      exact .inr (by omega)

/-- append(b, s...), s a string. -/
theorem wpList_append_string {P : Program} {w : World} {ops : Array Oper} {rest : List Oper} {o : Oper} {a : Act} {Q : Exit → Act → World → Prop} (hgd : o.guard = none) (sl x : Operand) (t u : TypeId)
    (ho : o.op = .call { callee := .builtin .append, args := #[sl, x], argTypes := #[t, u] })
    (base : Nat) (e : TypeId) (i : TypeInfo) (ht : P.underlying t = some (.slice e)) (hu : P.underlying u = some .string) (hi : P.info? e = some i) (hz : i.zero = some (.int .u8 0))
    (hsize : i.size = 1) (hby : i.bytes = 1)
    (v : Value) (n : Nat) (xs : List Value) (hs : a.eval sl = v) (hown : w.ownsRow base e 1 v n xs) (s : ByteArray) (hx : a.eval x = .string s)
    (h63 : n + s.size ≤ maxLen) (hbytes : n + s.size ≤ 140737488355328) (hbase : base ≤ w.heap.size)
    (h : ∀ A' c' w', w'.ownsRow base e 1 (.slice A' (n + s.size) c') (n + s.size) (xs ++ Lib.strCells s) → Mod (fun k => v.ownBlock = some k) w w' → (∀ k, (Value.slice A' (n + s.size) c').ownBlock = some k → v.ownBlock = some k ∨ w.heap.size ≤ k) → wpList P ops Q rest (a.put o.dst (.slice A' (n + s.size) c')) w') : wpList P ops Q (o :: rest) a w := by
  refine wpList_plain hgd fun K hK => ?_
  obtain ⟨A', c', w', hr, h2, h3, h4⟩ := run_append_string (P := P) w base t u o.type e i ht hu hi hz hsize hby v n xs hown s h63 hbytes hbase
  unfold Oper.wp execOp
  simp only [ho, resolve, invoke, builtin, Sem.run_bind, Sem.run_pure, Result.andThen_ok, List.map_toArray, List.map_cons, List.map_nil, hs, hx, hr]
  exact hK _ _ (h A' c' w' h2 h3 h4)

end Go.Proofs.Ytjmehamkpmimkaa

namespace Go.Proofs.Ytjmehamkpmimkaa
open Go.RowKit

theorem wNum_len (n : Int) (s : WSt) : (wNum n s).1.length ≤ s.1.length + 4 := by
  unfold wNum wPut
  split
  · simp
  · split <;> simp [beBytes_len]
theorem wText_len (t : List UInt8) (s : WSt) : (wText t s).1.length ≤ s.1.length + 4 + t.length := by
  have := wNum_len t.length s
  unfold wText
  split
  · simp; omega
  · omega

/-- The strings' own lists of octets. -/
def octs (ts : List ByteArray) : List (List UInt8) := ts.map fun t => t.data.toList

end Go.Proofs.Ytjmehamkpmimkaa

namespace Go.Proofs.Ytjmehamkpmimkaa
open Go.RowKit

/-- A field of the laws of layer 1. -/
structure Fld where
  kind : Int
  n : Int
  s : ByteArray
  l : List ByteArray

/-- The cells of a field. -/
def FldAt (S : Nat → Prop) (w : World) (b off : Nat) (f : Fld) : Prop :=
  w.cell? ⟨b, off, none⟩ = some (.int .i64 f.kind) ∧ w.cell? ⟨b, off + 1, none⟩ = some (.int .i64 f.n) ∧ w.cell? ⟨b, off + 2, none⟩ = some (.string f.s) ∧
  ∃ B c, w.cell? ⟨b, off + 3, none⟩ = some (.slice B f.l.length c) ∧ f.l.length ≤ maxLen ∧ f.s.size ≤ maxLen ∧ (∀ t ∈ f.l, t.size ≤ maxLen) ∧ Rd S w B (f.l.map Value.string)

def FldsAt (S : Nat → Prop) (w : World) (A : Option Addr) (fs : List Fld) : Prop :=
  0 < fs.length → ∃ b o, A = some ⟨b, o, none⟩ ∧ S b ∧ b < w.heap.size ∧ ∀ (i : Nat) (f : Fld), fs[i]? = some f → FldAt S w b (o + i * 4) f

theorem FldAt.keep {S F : Nat → Prop} {w w' : World} {b off : Nat} {f : Fld} (h : FldAt S w b off f) (hb : b < w.heap.size) (hs : S b) (hm : Mod F w w') (hS : ∀ b, S b → ¬ F b) : FldAt S w' b off f := by
  obtain ⟨h0, h1, h2, B, c, h3, h4, h5, h6, h7⟩ := h
  have hk : ∀ o, w'.cell? ⟨b, o, none⟩ = w.cell? ⟨b, o, none⟩ := fun o => hm.cell hb (hS _ hs)
  exact ⟨(hk _).trans h0, (hk _).trans h1, (hk _).trans h2, B, c, (hk _).trans h3, h4, h5, h6, h7.keep hm hS⟩

theorem FldsAt.keep {S F : Nat → Prop} {w w' : World} {A : Option Addr} {fs : List Fld} (h : FldsAt S w A fs) (hm : Mod F w w') (hS : ∀ b, S b → ¬ F b) : FldsAt S w' A fs := fun hn => by
  obtain ⟨b, o, e, hs, hb, hf⟩ := h hn
  exact ⟨b, o, e, hs, Nat.lt_of_lt_of_le hb hm.size, fun i f hi => (hf i f hi).keep hb hs hm hS⟩

/-- Which fields are small. -/
def fldSmall (f : Fld) : Bool := f.s.size ≤ 200 && f.l.length ≤ 20 && f.l.all fun t => t.size ≤ 100
def fldsSmall (fs : List Fld) : Bool := fs.length ≤ 20 && fs.all fldSmall

end Go.Proofs.Ytjmehamkpmimkaa

namespace Go.Proofs.Ytjmehamkpmimkaa
open Go.RowKit Go.ChangeShapes Go.WideShapes Go.Deep

section
variable {H : Type} {enc : TypeId × Value → H} {P : Program} {w : World} {base : Nat} {spare : Nat → Bool} {held : Bool}
theorem open_slice_fields {t e : TypeId} {fs : Array Field} {fuel : Nat} {cs : List Value} {x : DataW H × List MemPlace} (ht : P.underlying t = some (.slice e)) (he : P.underlying e = some (.struct fs))
    (hone : oneCellFields P fs = true) (hC : P.cellsOf e = fs.size) (h : DataW.trod enc P w base spare held fuel t cs = some x) :
    (cs = [.slice none 0 0] ∧ x = (.nil, [])) ∨
    ∃ (a : Addr) (len cap m : Nat) (D : Nat → DataW H) (Pl : Nat → List MemPlace), cs = [.slice (some a) len cap] ∧ base ≤ a.block ∧ len ≤ cap ∧ cap ≤ maxLen ∧ m = (if spare a.block then cap else len) ∧
      x = (.slice ((List.range len).map D) ((List.range (m - len)).map fun j => D (len + j)), MemPlace.row a (m * fs.size) ++ (List.range m).flatMap Pl) ∧
      ∀ i, i < m → ∃ (ys : List (DataW H × List MemPlace)) (n : Nat), D i = .agg (ys.map (·.1)) ∧ Pl i = ys.flatMap (·.2) ∧ ys.length = fs.size ∧
        ∀ (j : Nat) (f : Field), fs[j]? = some f → ∃ (v : Value) (y : DataW H × List MemPlace), w.cell? (a.add (i * fs.size + j)) = some v ∧ ys[j]? = some y ∧ DataW.trod enc P w base spare held n f.type [v] = some y := by
  rcases open_slice ht h with h0 | ⟨a, len, cap, m, n, D, Pl, hcs, hb, hl, hm, hmm, hx, hi⟩
  · exact .inl h0
  · refine .inr ⟨a, len, cap, m, D, Pl, hcs, hb, hl, hm, hmm, by rw [hC] at hx; exact hx, fun i him => ?_⟩
    obtain ⟨cs', hc, ht'⟩ := hi i him
    rw [hC] at hc
    obtain ⟨ys, n', hn', hy, hlen, hyl, hf⟩ := DataW.trod_struct he ht'
    obtain ⟨_, hcl, hat⟩ := World.cells?_some hc
    simp only [Prod.mk.injEq] at hy
    refine ⟨ys, n', hy.1, hy.2, hyl, fun j f hj => ?_⟩
    obtain ⟨ho, hk⟩ := hone_of hone j f hj
    have hjl : j < fs.size := (Array.getElem?_eq_some_iff.1 hj).1
    have hcell := hat j hjl
    have hv : cs'[j]? = some (cs'[j]'(by omega)) := List.getElem?_eq_getElem (by omega)
    have h1 := hf j f hj
    rw [ho, hk] at h1
    have hone' : (cs'.drop j).take 1 = [cs'[j]'(by omega)] := by
      rw [List.drop_eq_getElem_cons (by omega)]
      rfl
    rw [hone'] at h1
    have hys : ys[j]? = some (ys[j]'(by omega)) := List.getElem?_eq_getElem (by omega)
    refine ⟨_, _, ?_, hys, h1.trans hys⟩
    rw [← Go.Deep.add_add, hcell, hv]
end

section
variable {H : Type} {enc : TypeId × Value → H} {w : World}

theorem cell_spot {w : World} {a : Addr} {n : Nat} {v : Value} (h : w.cell? (a.add n) = some v) : (a.add n).spot = none := by
  unfold World.cell? at h
  split at h
  · split at h
    · cases h
    · rename_i hs
      simpa using hs
  · cases h

theorem add_lit' {a : Addr} (h : a.spot = none) (n : Nat) : a.add n = ⟨a.block, a.off + n, none⟩ := by
  obtain ⟨b, o, s⟩ := a
  simp only at h
  subst h
  exact Addr.add_lit _ _ _

end
end Go.Proofs.Ytjmehamkpmimkaa

namespace Go.Proofs.Ytjmehamkpmimkaa
open Go.RowKit

theorem xor_div2 (a b : Nat) : (a ^^^ b) / 2 = a / 2 ^^^ b / 2 := by
  have h := Nat.shiftRight_xor_distrib (a := a) (b := b) (i := 1)
  simpa [Nat.shiftRight_eq_div_pow] using h
theorem xor_mod2 (a b : Nat) : (a ^^^ b) % 2 = (a + b) % 2 := by
  have h : (a ^^^ b) % 2 ^ 1 = a % 2 ^ 1 ^^^ b % 2 ^ 1 := Nat.xor_mod_two_pow
  simp only [Nat.pow_one] at h
  rw [h, Nat.add_mod]
  rcases Nat.mod_two_eq_zero_or_one a with ha | ha <;> rcases Nat.mod_two_eq_zero_or_one b with hb | hb <;> rw [ha, hb] <;> rfl
theorem crcBit_xor (a b : Nat) : crcBit (a ^^^ b) = (if (b + a) % 2 = 1 then a / 2 ^^^ 3988292384 else a / 2) ^^^ (b / 2) := by
  unfold crcBit
  rw [xor_mod2, xor_div2, Nat.add_comm]
  split
  · rw [Nat.xor_assoc, Nat.xor_assoc, Nat.xor_comm (b / 2)]
  · rfl

set_option maxHeartbeats 1600000 in
theorem refSum_any (s : ByteArray) (w : World) (hs : s.size ≤ maxLen) :
    Calls Try.prog 63 #[.string s] w fun e w' => e = .returned (.int .u32 (crcSum s.data.toList : Nat)) ∧ w = w' := by
  unfold maxLen at hs
  have hsz : s.data.toList.length = s.size := Array.length_toList
  have HSZ := Lib.hid hsz
  clear hsz
  go_enter Try.func63, Try.ntmps63
  go_wp2
  go_loop [3, 4] (fun r i => ∃ k : Nat, k ≤ s.size ∧ i = .int .i64 k ∧ r = .int .u32 (crcFold (s.data.toList.take k) 4294967295 : Nat)) (fun _ i => s.size - (intOf i).toNat)
  case atStart => exact ⟨0, Nat.zero_le _, rfl, rfl⟩
  case round =>
    obtain ⟨k, hk, rfl, rfl⟩ := hrel
    by_cases hlt : k < s.size
    · obtain ⟨R, hR⟩ : ∃ R, R = crcFold (List.take k s.data.toList) 4294967295 := ⟨_, rfl⟩
      have hRlt : R < 4294967296 := by rw [hR]; exact crcFold_lt _ (by omega)
      have HR := Lib.hid hR
      rw [← hR]
      clear hR
      obtain ⟨ch, hch⟩ : ∃ ch : UInt8, ch = s[k] := ⟨_, rfl⟩
      have HC := Lib.hid hch
      have hc256 := ch.toNat_lt
      go_wp2
      rw [← hch]
      clear hch
      go_loop [3, 5, 6] (fun r c i => ∃ m a b : Nat, m ≤ 8 ∧ i = .int .i64 m ∧ a < 4294967296 ∧ b < 2 ^ (8 - m) ∧ r = .int .u32 (a : Int) ∧ c = .int .u8 (b : Int) ∧ crcBits (8 - m) (a ^^^ b) = crcByte R ch) (fun _ _ i => 8 - (intOf i).toNat)
      case atStart => exact ⟨0, R, ch.toNat, Nat.zero_le _, rfl, hRlt, hc256, rfl, rfl, rfl⟩
      case round =>
        obtain ⟨m, a, b, hm, rfl, ha, hb, rfl, rfl, hab⟩ := hrel
        have HAB := Lib.hid hab
        have HB := Lib.hid hb
        have hb256 : b < 256 := Nat.lt_of_lt_of_le hb (by rw [show (256 : Nat) = 2 ^ 8 from rfl]; exact Nat.pow_le_pow_right (by omega) (by omega))
        clear hab hb
        by_cases hm8 : m < 8
        · have hnext : crcBits (8 - (m + 1)) ((if (b + a) % 2 = 1 then a / 2 ^^^ 3988292384 else a / 2) ^^^ (b / 2)) = crcByte R ch := by
            have h := HAB.out
            rw [show 8 - m = (8 - (m + 1)) + 1 by omega, crcBits, crcBit_xor] at h
            exact h
          have hbn : b / 2 < 2 ^ (8 - (m + 1)) := by
            have h := HB.out
            rw [show 8 - m = (8 - (m + 1)) + 1 by omega, Nat.pow_succ] at h
            omega
          have HN := Lib.hid hnext
          have HBN := Lib.hid hbn
          clear hnext hbn
          have hp : bits .xor .u32 ((a : Int) / 2) 3988292384 = ((a / 2 ^^^ 3988292384 : Nat) : Int) := u32_xor_nat (a / 2) 3988292384 (by omega) (by omega)
          have hxlt : a / 2 ^^^ 3988292384 < 4294967296 := Nat.xor_lt_two_pow (n := 32) (by omega) (by omega)
          by_cases hodd : (b + a) % 2 = 1
          · have ht : (((b : Int) + (a : Int)) % 2 == 1) = true := by simp; omega
            have HO := Lib.hid hodd
            clear hodd
            go_wp2
            go_round
            case rel => exact ⟨m + 1, a / 2 ^^^ 3988292384, b / 2, by omega, by go_num, hxlt, HBN.out, rfl, rfl, by have h := HN.out; rw [if_pos HO.out] at h; exact h⟩
            case measure => simp [intOf]; omega
          · have ht : (((b : Int) + (a : Int)) % 2 == 1) = false := by simp; omega
            have HO := Lib.hid hodd
            clear hodd
            go_wp2
            go_round
            case rel => exact ⟨m + 1, a / 2, b / 2, by omega, by go_num, by omega, HBN.out, rfl, rfl, by have h := HN.out; rw [if_neg HO.out] at h; exact h⟩
            case measure => simp [intOf]; omega
        · obtain rfl : m = 8 := by omega
          have hb0 : b = 0 := by have := HB.out; simp at this; exact this
          have hres : a = crcByte R ch := by have h := HAB.out; rw [hb0] at h; simpa [crcBits] using h
          have HRES := Lib.hid hres
          clear hb0 hres
          go_wp2
          go_round
          case rel =>
            refine ⟨k + 1, by omega, by go_num, ?_⟩
            rw [List.take_succ_eq_append_getElem (by rw [HSZ.out]; exact hlt), crcFold_snoc, ← HR.out, HRES.out, HC.out]
            rfl
          case measure => simp [intOf]; omega
    · have hfin : crcFold (s.data.toList.take k) 4294967295 = crcFold s.data.toList 4294967295 := by rw [List.take_of_length_le (by rw [HSZ.out]; omega)]
      have hflt := crcFold_lt s.data.toList (r := 4294967295) (by omega)
      rw [hfin]
      obtain ⟨Z, hZ⟩ : ∃ Z, Z = crcFold s.data.toList 4294967295 := ⟨_, rfl⟩
      rw [← hZ] at hflt ⊢
      have HZ := Lib.hid hZ
      clear hZ hfin
      go_wp2
      go_ret
      refine ⟨ret_int ?_, rfl⟩
      unfold crcSum
      rw [← HZ.out]
      omega
end Go.Proofs.Ytjmehamkpmimkaa
