/- append on an abstract frame: so many cells an element. -/
import Derived.Test.YtpjpmlhnhcmacaaGreatDoorAppK
import Derived.Test.YtpjpmlhnhcmacaaGreatDoorAppd
namespace Go.Proofs.YtpjpmlhnhcmacaaGreatDoor
open Go.RowKit

/-- append, whatever is appended (nil, too), k cells an element: a step. -/
theorem stepn_append {P : Program} (w : World) {ops : Array Oper} {o : Oper} {a : Act} {K : Act → World → Prop} {Q : Exit → Act → World → Prop} {E : Prop} (hgd : o.guard = none) (s x : Operand) (t : TypeId)
    (ho : o.op = .call { callee := .builtin .append, args := #[s, x], argTypes := #[t, t] })
    (base : Nat) (e : TypeId) (i : TypeInfo) (z : Value) (size bytes : Nat) (ht : P.underlying t = some (.slice e)) (hi : P.info? e = some i) (hz : i.zero = some z)
    (hsize : i.size = size) (hby : i.bytes = bytes) (hzs : z.cells.size = size) (hsz : 0 < size)
    (v : Value) (n : Nat) (xs : List Value) (hs : a.eval s = v) (hown : w.ownsRow base e size v n xs)
    (A : Option Addr) (m c : Nat) (news : List Value) (hx : a.eval x = .slice A m c) (hl : news.length = m * size) (hr : 0 < m → ∃ ad, A = some ad ∧ ∀ j u, news[j]? = some u → w.cell? (ad.add j) = some u) (h1 : ∀ u ∈ news, u.oneCell' = true)
    (hA : A = none → m = 0 ∧ c = 0)
    (hbytes : (n + m) * bytes ≤ 140737488355328) (h63 : n + m ≤ maxLen) (hbase : base ≤ w.heap.size)
    (h : ∀ A' c' w', w'.ownsRow base e size (.slice A' (n + m) c') (n + m) (xs ++ news) → Mod (fun k => v.ownBlock = some k) w w' → (∀ k, (Value.slice A' (n + m) c').ownBlock = some k → v.ownBlock = some k ∨ w.heap.size ≤ k) → K (a.put o.dst (.slice A' (n + m) c')) w') :
    if Region.wanted o (yielded ops a.tmps) = true then Oper.wp P o a w K Q else E := by
  have hw : Region.wanted o (yielded ops a.tmps) = true := by simp [Region.wanted, hgd]
  rcases A with _ | ad
  · obtain ⟨rfl, rfl⟩ := hA rfl
    have hnews : news = [] := List.eq_nil_of_length_eq_zero (by simpa using hl)
    subst hnews
    rw [if_pos hw]
    have hrun := run_append_of_nil (P := P) w base t o.type e i size ht hi v n xs hown 0
    obtain ⟨A', c', rfl, _, _⟩ := own_slice hown
    unfold Oper.wp execOp
    simp only [ho, resolve, invoke, builtin, Sem.run_bind, Sem.run_pure, Result.andThen_ok, List.map_toArray, List.map_cons, List.map_nil, hs, hx, hrun]
    exact h A' c' w (by simpa using hown) (Mod.refl _ _) (fun k hk => .inl hk)
  · rcases Nat.eq_zero_or_pos m with h0 | h0
    · subst h0
      have hnews : news = [] := List.eq_nil_of_length_eq_zero (by simpa using hl)
      subst hnews
      exact step_append_k w hgd s x t ho base e i z size bytes ht hi hz hsize hby hzs hsz v n xs hs hown ad 0 c [] hx (by simp) (fun j u hj => by simp at hj) (fun u hu => by simp at hu) hbytes h63 hbase h
    · obtain ⟨ad', he, hr'⟩ := hr h0
      injection he with he
      subst he
      exact step_append_k w hgd s x t ho base e i z size bytes ht hi hz hsize hby hzs hsz v n xs hs hown ad m c news hx hl hr' h1 hbytes h63 hbase h

section
variable {P : Program}
theorem opn_append (w : World) {o : Oper} {a : Act} {K : Act → World → Prop} {Q : Exit → Act → World → Prop} (hgd : o.guard = none) (s x : Operand) (t : TypeId)
    (ho : o.op = .call { callee := .builtin .append, args := #[s, x], argTypes := #[t, t] })
    (base : Nat) (e : TypeId) (i : TypeInfo) (z : Value) (size bytes : Nat) (ht : P.underlying t = some (.slice e)) (hi : P.info? e = some i) (hz : i.zero = some z)
    (hsize : i.size = size) (hby : i.bytes = bytes) (hzs : z.cells.size = size) (hsz : 0 < size)
    (v : Value) (n : Nat) (xs : List Value) (hs : a.eval s = v) (hown : w.ownsRow base e size v n xs)
    (A : Option Addr) (m c : Nat) (news : List Value) (hx : a.eval x = .slice A m c) (hl : news.length = m * size) (hr : 0 < m → ∃ ad, A = some ad ∧ ∀ j u, news[j]? = some u → w.cell? (ad.add j) = some u) (h1 : ∀ u ∈ news, u.oneCell' = true)
    (hbytes : (n + m) * bytes ≤ 140737488355328) (h63 : n + m ≤ maxLen) (hbase : base ≤ w.heap.size)
    (h : ∀ A' c' w', w'.ownsRow base e size (.slice A' (n + m) c') (n + m) (xs ++ news) → Mod (fun k => v.ownBlock = some k) w w' → (∀ k, (Value.slice A' (n + m) c').ownBlock = some k → v.ownBlock = some k ∨ w.heap.size ≤ k) → K (a.put o.dst (.slice A' (n + m) c')) w') :
    Oper.wp P o a w K Q := by
  rcases A with _ | ad
  · have hm0 : m = 0 := by
      rcases Nat.eq_zero_or_pos m with h0 | h0
      · exact h0
      · obtain ⟨ad, e, _⟩ := hr h0
        cases e
    subst hm0
    have hnews : news = [] := List.eq_nil_of_length_eq_zero (by simpa using hl)
    subst hnews
    have hrun := run_append_of_nil (P := P) w base t o.type e i size ht hi v n xs hown c
    obtain ⟨A', c', rfl, _, _⟩ := own_slice hown
    unfold Oper.wp execOp
    simp only [ho, resolve, invoke, builtin, Sem.run_bind, Sem.run_pure, Result.andThen_ok, List.map_toArray, List.map_cons, List.map_nil, hs, hx, hrun]
    exact h A' c' w (by simpa using hown) (Mod.refl _ _) (fun k hk => .inl hk)
  · have hh := stepn_append (P := P) w (ops := #[]) (o := o) (a := a) (K := K) (Q := Q) (E := False) hgd s x t ho base e i z size bytes ht hi hz hsize hby hzs hsz v n xs hs hown (some ad) m c news hx hl hr h1 (fun e => by cases e) hbytes h63 hbase h
    rwa [if_pos (by simp [Region.wanted, hgd])] at hh
end

/-- What an append leaves. -/
structure Apn (base : Nat) (e : TypeId) (size : Nat) (v : Value) (k : Nat) (ys : List Value) (A' : Option Addr) (c' : Nat) (w w' : World) : Prop where
  own : w'.ownsRow base e size (.slice A' k c') k ys
  mod : Mod (fun k => v.ownBlock = some k) w w'
  blk : ∀ j, (Value.slice A' k c').ownBlock = some j → v.ownBlock = some j ∨ w.heap.size ≤ j

theorem sl_appendn {P : Program} {n : Nat} {L : List (Tmp × Value)} {a : Act} {ops : Array Oper} {Q : Exit → Act → World → Prop} {w : World} {rest : List Oper} {o : Oper} {d : Tmp}
    (HF : Sl n L a) (hgd : o.guard = none) (hd : o.dst = some d) (hdn : d < n) {s x : Tmp} {t : TypeId} (ho : o.op = .call { callee := .builtin .append, args := #[.tmp s, .tmp x], argTypes := #[t, t] })
    {base : Nat} {e : TypeId} {i : TypeInfo} {z : Value} {size bytes : Nat} (ht : P.underlying t = some (.slice e)) (hi : P.info? e = some i) (hz : i.zero = some z) (hsize : i.size = size) (hby : i.bytes = bytes) (hzs : z.cells.size = size) (hsz : 0 < size)
    {v : Value} {k : Nat} {xs : List Value} (hs : look L s = some v) (hown : w.ownsRow base e size v k xs) {A : Option Addr} {m c : Nat} {news : List Value} (hx : look L x = some (.slice A m c)) (hl : news.length = m * size) (hr : Rd All w A news)
    (h1 : ∀ u ∈ news, u.oneCell' = true) (hbytes : (k + m) * bytes ≤ 140737488355328) (h63 : k + m ≤ maxLen) (hbase : base ≤ w.heap.size)
    (hk : ∀ A' c' w' a', Sl n ((d, .slice A' (k + m) c') :: L) a' → Apn base e size v (k + m) (xs ++ news) A' c' w w' → wpList P ops Q rest a' w') : wpList P ops Q (o :: rest) a w := by
  refine wpList_plain hgd fun K hK => ?_
  refine opn_append w hgd (.tmp s) (.tmp x) t ho base e i z size bytes ht hi hz hsize hby hzs hsz v k xs (HF.at s hs) hown A m c news (HF.at x hx) hl (fun hm => ?_) h1 hbytes h63 hbase fun A' c' w' h1 h2 h3 => ?_
  · obtain ⟨ad, e1, _, _, e2⟩ := hr (by rw [hl]; exact Nat.mul_pos hm hsz)
    exact ⟨ad, e1, e2⟩
  · rw [hd]
    exact hK _ _ (hk A' c' w' _ (HF.put hdn _) ⟨h1, h2, h3⟩)
end Go.Proofs.YtpjpmlhnhcmacaaGreatDoor
