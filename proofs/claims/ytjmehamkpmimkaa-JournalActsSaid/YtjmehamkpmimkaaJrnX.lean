/- Contracts of journal: area, mark. -/
import Derived.Test.YtjmehamkpmimkaaJrnW
import Derived.Lib.AppendZerosOnto
import Derived.Deep.RegionWith
namespace Go.Proofs.Ytjmehamkpmimkaa
open Go.RowKit

theorem zeroCells_u8 (k : Nat) : Builtin.zeroCells (Value.int IntKind.u8 0).cells k = (List.replicate k (Value.int IntKind.u8 0)).toArray := by
  apply Array.toList_inj.1
  apply List.ext_getElem
  · simp [Builtin.zeroCells, Value.cells]
  · intro i h1 h2
    simp [Builtin.zeroCells, Value.cells, Nat.mod_one]

section
variable {P : Program} (w : World)
theorem run_append_room_zeros (t tn ty e : TypeId) (i : TypeInfo) (kq kn : IntKind) (ht : P.underlying t = some (.slice e)) (htn : P.underlying tn = some (.int kn)) (hi : P.info? e = some i) (hz : i.zero = some (.int .u8 0)) (hs1 : i.size = 1) (hby : i.bytes = 1)
    (g sLen sCap : Nat) (cur : Array Value) (hg : w.heap[g]? = some (.cells cur e (0, 0))) (k : Nat) (h0 : 0 < k) (hk : k ≤ 1000000000)
    (hroom : sLen + k ≤ sCap) (hfit : sLen + k ≤ cur.size) :
    (Builtin.append_ #[t, tn] ty #[.slice (some ⟨g, 0, none⟩) sLen sCap, .int kq k]).run P w =
      .ok (.slice (some ⟨g, 0, none⟩) (sLen + k) sCap) (w.setRow g (cur.toList.take sLen ++ List.replicate k (Value.int .u8 0) ++ cur.toList.drop (sLen + k)).toArray) := by
  have hst := run_storeCells_at P g sLen e (List.replicate k (Value.int .u8 0)) 0 cur w hg (by simpa using hfit) (by intro u hu; obtain rfl := List.eq_of_mem_replicate hu; rfl)
  have hw : IntKind.i64.wrap (k : Int) = k := by rw [IntKind.wrap_i64]; omega
  have hneg : ¬ ((k : Int) < 0) := by omega
  have hns : ¬ (k = 0) := by omega
  have h48i : ¬ (281474976710656 < (k : Int)) := by omega
  have hzc := zeroCells_u8 k
  simp only [Nat.add_zero, List.length_replicate] at hst
  simp [Builtin.append_, run_underlying ht, run_underlying htn, sizeOf, typeInfo, zeroValue, hi, hz, hs1, hby, asInt, asIntOf, hw, hneg, hns, h48i, hroom, hzc, Addr.add_lit, hst]

/-- append(b, make([]byte, k)...) onto octets of the call's own. -/
theorem run_append_zeros (base : Nat) (t tn ty e : TypeId) (i : TypeInfo) (kq kn : IntKind) (ht : P.underlying t = some (.slice e)) (htn : P.underlying tn = some (.int kn)) (hi : P.info? e = some i) (hz : i.zero = some (.int .u8 0)) (hs1 : i.size = 1) (hby : i.bytes = 1)
    (v : Value) (n : Nat) (xs : List Value) (hown : w.ownsRow base e 1 v n xs) (hn : 0 < n) (k : Nat) (h0 : 0 < k) (hk : k ≤ 1000000000) (hnk : n ≤ 1000000000) (hbase : base ≤ w.heap.size) :
    ∃ A' c' w', (Builtin.append_ #[t, tn] ty #[v, .int kq k]).run P w = .ok (.slice A' (n + k) c') w' ∧ w'.ownsRow base e 1 (.slice A' (n + k) c') (n + k) (xs ++ List.replicate k (.int .u8 0)) ∧ Mod (fun j => v.ownBlock = some j) w w' ∧
      (∀ j, (Value.slice A' (n + k) c').ownBlock = some j → v.ownBlock = some j ∨ w.heap.size ≤ j) := by
  have hxl : xs.length = n := by simpa using hown.1
  have hlen : (xs ++ List.replicate k (Value.int .u8 0)).length = (n + k) * 1 := by rw [List.length_append, hxl, List.length_replicate, Nat.mul_one]
  rcases hown.2 with ⟨rfl, rfl⟩ | ⟨g, cap, cur, rfl, hbg, hg, hnc, hcm, hcs, htake⟩
  · omega
  · have hcs' : cur.size = cap := by simpa using hcs
    by_cases hroom : n + k ≤ cap
    · have hr := run_append_room_zeros (P := P) w t tn ty e i kq kn ht htn hi hz hs1 hby g n cap cur hg k h0 hk hroom (by omega)
      refine ⟨_, _, _, hr, ⟨hlen, .inr ⟨g, cap, _, rfl, hbg, setRow_heap w g cur _ e _ hg, hroom, hcm, ?_, ?_⟩⟩, (Mod.refl (fun j => (Value.slice (some ⟨g, 0, none⟩) n cap).ownBlock = some j) w).setRow (g := g) rfl _, fun j hj => .inl hj⟩
      · simp only [List.size_toArray, List.length_append, List.length_take, List.length_drop, Array.length_toList, List.length_replicate]
        omega
      · have ht' : cur.toList.take n = xs := by simpa using htake
        rw [ht', ← hlen]
        exact List.take_left
    · have holds : ∀ j u, xs[j]? = some u → w.cell? ((⟨g, 0, none⟩ : Addr).add j) = some u := hown.cells (g := g) rfl
      have hfo := run_firstCells_some (P := P) w.drew i.size n ⟨g, 0, none⟩ n cap xs (by rw [hs1]; simpa using hxl) (by simpa using holds)
      have hr := Lib.run_append_grow_zeros (P := P) w t tn ty e i (.int .u8 0) kq kn ht htn hi hz (some ⟨g, 0, none⟩) n cap xs hfo k h0 (by omega) (by omega) (by omega) (by rw [hby]; omega) (by rw [hby]; exact growslice_fits (by omega) (by omega))
      have hge := grownCap_ge w (n + k) cap e
      have hcm2 : grownCap w (n + k) cap e ≤ maxLen := grownCap_le_maxLen w (n + k) cap e (by simp only [maxLen]; omega)
      refine ⟨_, _, _, hr, ⟨hlen, .inr ⟨w.heap.size, _, _, rfl, hbase, heap_alloc_new w.drew _, hge, hcm2, ?_, ?_⟩⟩, ((Mod.refl _ w).drew).alloc _, fun j hj => .inr ?_⟩
      · simp only [Array.size_append, List.size_toArray, zeroCells_u8, hxl, List.length_replicate]
        omega
      · simp only [Array.toList_append, List.append_assoc, zeroCells_u8]
        rw [← List.append_assoc, ← hlen]
        exact List.take_left
      · have : w.heap.size = j := by simpa [Value.ownBlock] using hj
        omega

theorem wpList_append_zeros {w : World} {ops : Array Oper} {rest : List Oper} {o : Oper} {a : Act} {Q : Exit → Act → World → Prop} (hgd : o.guard = none) (sl x : Operand) (t tn : TypeId)
    (ho : o.op = .call { callee := .builtin .append, args := #[sl, x], argTypes := #[t, tn] })
    (base : Nat) (e : TypeId) (i : TypeInfo) (kq kn : IntKind) (ht : P.underlying t = some (.slice e)) (htn : P.underlying tn = some (.int kn)) (hi : P.info? e = some i) (hz : i.zero = some (.int .u8 0)) (hs1 : i.size = 1) (hby : i.bytes = 1)
    (v : Value) (n : Nat) (xs : List Value) (hs : a.eval sl = v) (hown : w.ownsRow base e 1 v n xs) (hn : 0 < n) (k : Nat) (hx : a.eval x = .int kq k) (h0 : 0 < k) (hk : k ≤ 1000000000) (hnk : n ≤ 1000000000) (hbase : base ≤ w.heap.size)
    (h : ∀ A' c' w', w'.ownsRow base e 1 (.slice A' (n + k) c') (n + k) (xs ++ List.replicate k (.int .u8 0)) → Mod (fun j => v.ownBlock = some j) w w' → (∀ j, (Value.slice A' (n + k) c').ownBlock = some j → v.ownBlock = some j ∨ w.heap.size ≤ j) → wpList P ops Q rest (a.put o.dst (.slice A' (n + k) c')) w') : wpList P ops Q (o :: rest) a w := by
  refine wpList_plain hgd fun K hK => ?_
  obtain ⟨A', c', w', hr, h2, h3, h4⟩ := run_append_zeros (P := P) w base t tn o.type e i kq kn ht htn hi hz hs1 hby v n xs hown hn k h0 hk hnk hbase
  unfold Oper.wp execOp
  simp only [ho, resolve, invoke, builtin, Sem.run_bind, Sem.run_pure, Result.andThen_ok, List.map_toArray, List.map_cons, List.map_nil, hs, hx, hr]
  exact hK _ _ (h A' c' w' h2 h3 h4)

/-- copy(d, s), one cell an element, both rows that are there. -/
theorem wpList_copy1 {w : World} {ops : Array Oper} {rest : List Oper} {o : Oper} {a : Act} {Q : Exit → Act → World → Prop} (hgd : o.guard = none) (d s : Operand) (dT sT : TypeId)
    (ho : o.op = .call { callee := .builtin .copy, args := #[d, s], argTypes := #[dT, sT] }) (elem : TypeId) (hu : P.underlying dT = some (.slice elem)) (hsz : (P.info? elem).map (·.size) = some 1)
    (dLen dCap : Nat) (ad : Addr) (sLen sCap : Nat) (g off : Nat) (hd : a.eval d = .slice (some ⟨g, off, none⟩) dLen dCap) (hs : a.eval s = .slice (some ad) sLen sCap)
    (cur : List Value) (t : TypeId) (hg : w.heap[g]? = some (.cells cur.toArray t (0, 0))) (cs : List Value) (hn : cs.length = Nat.min sLen dLen) (hpos : 0 < cs.length)
    (hsrc : ∀ j v, cs[j]? = some v → w.cell? (ad.add j) = some v) (hfit : off + cs.length ≤ cur.length) (h1 : ∀ v ∈ cs, v.oneCell' = true)
    (h : ∀ w', RowKit.Hid (w'.heap[g]? = some (.cells (splice cur off cs).toArray t (0, 0))) → RowKit.Hid (Mod (fun k => k = g) w w') → wpList P ops Q rest (a.put o.dst (goInt cs.length)) w') : wpList P ops Q (o :: rest) a w := by
  refine wpList_plain hgd fun K hK => ?_
  have hrun := run_copy_row (P := P) w dT sT o.type elem g off dLen dCap ad sLen sCap cur.toArray t cs hu hsz hg hn hsrc (by simpa using hfit) h1
  unfold Oper.wp execOp
  simp only [ho, resolve, invoke, builtin, Sem.run_bind, Sem.run_pure, Result.andThen_ok, List.map_toArray, List.map_cons, List.map_nil, hd, hs, hrun]
  exact hK _ _ (h _ (show _ = _ by simpa [splice] using setRow_heap w g _ _ t _ hg) (Lib.hid ((Mod.refl (fun k => k = g) w).setRow (g := g) rfl _)))
end

end Go.Proofs.Ytjmehamkpmimkaa
