/- Laws of single operations: append. -/
import Derived.Test.YtpjpmlhnhcmacaaFrdU
import Derived.Test.YtpjpmlhnhcmacaaFlow5
namespace Go.Proofs.Ytpjpmlhnhcmacaa
open Go.RowKit

section
variable {P : Program}

theorem op_append (w : World) {o : Oper} {a : Act} {K : Act → World → Prop} {Q : Exit → Act → World → Prop} (hgd : o.guard = none) (s x : Operand) (t : TypeId)
    (ho : o.op = .call { callee := .builtin .append, args := #[s, x], argTypes := #[t, t] })
    (base : Nat) (e : TypeId) (i : TypeInfo) (z : Value) (size bytes : Nat) (ht : P.underlying t = some (.slice e)) (hi : P.info? e = some i) (hz : i.zero = some z)
    (hsize : i.size = size) (hby : i.bytes = bytes) (hzs : z.cells.size = size) (hsz : 0 < size)
    (v : Value) (n : Nat) (xs : List Value) (hs : a.eval s = v) (hown : w.ownsRow base e size v n xs)
    (A : Option Addr) (m c : Nat) (news : List Value) (hx : a.eval x = .slice A m c) (hl : news.length = m * size) (hr : 0 < m → ∃ ad, A = some ad ∧ ∀ j u, news[j]? = some u → w.cell? (ad.add j) = some u) (h1 : ∀ u ∈ news, u.oneCell' = true)
    (hbytes : (n + m) * bytes ≤ 140737488355328) (h63 : n + m ≤ maxLen) (hbase : base ≤ w.heap.size)
    (h : ∀ A' c' w', w'.ownsRow base e size (.slice A' (n + m) c') (n + m) (xs ++ news) → Mod (fun k => v.ownBlock = some k) w w' → (∀ k, (Value.slice A' (n + m) c').ownBlock = some k → v.ownBlock = some k ∨ w.heap.size ≤ k) → K (a.put o.dst (.slice A' (n + m) c')) w') :
    Oper.wp P o a w K Q := by
  rcases A with _ | ad
  · have hm0 : m = 0 := by
      rcases Nat.eq_zero_or_pos m with h0 | h0
      · exact h0
      · obtain ⟨ad, e, _⟩ := hr h0
        cases e
    subst hm0
    have hnews : news = [] := List.eq_nil_of_length_eq_zero (by simpa using hl)
    subst hnews
    have hrun := run_append_of_nil (P := P) w base t o.type e i size ht hi v n xs hown c
    obtain ⟨A', c', rfl, _, _⟩ := own_slice hown
    unfold Oper.wp execOp
    simp only [ho, resolve, invoke, builtin, Sem.run_bind, Sem.run_pure, Result.andThen_ok, List.map_toArray, List.map_cons, List.map_nil, hs, hx, hrun]
    exact h A' c' w (by simpa using hown) (Mod.refl _ _) (fun k hk => .inl hk)
  · have hh := step_append_opt (P := P) w (ops := #[]) (o := o) (a := a) (K := K) (Q := Q) (E := False) hgd s x t ho base e i z size bytes ht hi hz hsize hby hzs hsz v n xs hs hown (some ad) m c news hx hl hr h1 (fun e => by cases e) hbytes h63 hbase h
    rwa [if_pos (by simp [Region.wanted, hgd])] at hh

theorem blk_news {w : World} {b : Nat} {t : TypeId} {cs : Array Value} (h : Blk w b t cs) : ∀ (j : Nat) (u : Value), cs.toList[j]? = some u → w.cell? ((⟨b, 0, none⟩ : Addr).add j) = some u := fun j u hu => by
  rw [Addr.add_lit, Nat.zero_add, h.cell j, ← hu]
  simp

/-- One element, of so many cells, that lies in a block of its own. -/
theorem op_append1 (w : World) {o : Oper} {a : Act} {K : Act → World → Prop} {Q : Exit → Act → World → Prop} (hgd : o.guard = none) (s x : Tmp) (t : TypeId)
    (ho : o.op = .call { callee := .builtin .append, args := #[.tmp s, .tmp x], argTypes := #[t, t] })
    (base : Nat) (e : TypeId) (i : TypeInfo) (z : Value) (size bytes : Nat) (ht : P.underlying t = some (.slice e)) (hi : P.info? e = some i) (hz : i.zero = some z)
    (hsize : i.size = size) (hby : i.bytes = bytes) (hzs : z.cells.size = size) (hsz : 0 < size)
    (v : Value) (n : Nat) (xs : List Value) (hs : (a.tmps[s]?).getD undef = v) (hown : w.ownsRow base e size v n xs)
    (b : Nat) (tb : TypeId) (cs : Array Value) (c : Nat) (hx : (a.tmps[x]?).getD undef = .slice (some ⟨b, 0, none⟩) 1 c) (hb : Blk w b tb cs) (hl : cs.size = size) (h1 : ∀ u ∈ cs.toList, u.oneCell' = true)
    (hn : n ≤ 1000000) (hb2 : bytes ≤ 100000) (hbase : base ≤ w.heap.size)
    (h : ∀ A' c' w', w'.ownsRow base e size (.slice A' (n + 1) c') (n + 1) (xs ++ cs.toList) → Mod (fun k => v.ownBlock = some k) w w' → (∀ k, (Value.slice A' (n + 1) c').ownBlock = some k → v.ownBlock = some k ∨ w.heap.size ≤ k) → K (a.put o.dst (.slice A' (n + 1) c')) w') :
    Oper.wp P o a w K Q :=
  op_append w hgd (.tmp s) (.tmp x) t ho base e i z size bytes ht hi hz hsize hby hzs hsz v n xs ((Act.eval_tmp _ _).trans hs) hown (some ⟨b, 0, none⟩) 1 c cs.toList ((Act.eval_tmp _ _).trans hx) (by simpa using hl)
    (fun _ => ⟨_, rfl, blk_news hb⟩) h1 (Nat.le_trans (Nat.mul_le_mul (Nat.add_le_add_right hn 1) hb2) (by decide)) (by simp only [maxLen]; omega) hbase h
end
end Go.Proofs.Ytpjpmlhnhcmacaa
