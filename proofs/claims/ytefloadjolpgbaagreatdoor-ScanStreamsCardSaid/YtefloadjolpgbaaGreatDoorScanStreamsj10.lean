/- Parts of the proof of ScanStreams, joined: AppK Appn RnI RnJ PhK SlD. -/
import Derived.Test.YtefloadjolpgbaaGreatDoorScanStreamsj9
import Derived.Deep.RegionLaw
namespace Go.Proofs.YtefloadjolpgbaaGreatDoor
open Go.RowKit

section
variable {P : Program} (w : World)
theorem step_append_k {ops : Array Oper} {o : Oper} {a : Act} {K : Act → World → Prop} {Q : Exit → Act → World → Prop} {E : Prop} (hgd : o.guard = none) (s x : Operand) (t : TypeId)
    (ho : o.op = .call { callee := .builtin .append, args := #[s, x], argTypes := #[t, t] })
    (base : Nat) (e : TypeId) (i : TypeInfo) (z : Value) (size bytes : Nat) (ht : P.underlying t = some (.slice e)) (hi : P.info? e = some i) (hz : i.zero = some z)
    (hsize : i.size = size) (hby : i.bytes = bytes) (hzs : z.cells.size = size) (hsz : 0 < size)
    (v : Value) (n : Nat) (xs : List Value) (hs : a.eval s = v) (hown : w.ownsRow base e size v n xs)
    (ad : Addr) (m c : Nat) (news : List Value) (hx : a.eval x = .slice (some ad) m c) (hl : news.length = m * size) (hr : ∀ j u, news[j]? = some u → w.cell? (ad.add j) = some u) (h1 : ∀ u ∈ news, u.oneCell' = true)
    (hbytes : (n + m) * bytes ≤ 140737488355328) (h63 : n + m ≤ maxLen) (hbase : base ≤ w.heap.size)
    (h : ∀ A' c' w', w'.ownsRow base e size (.slice A' (n + m) c') (n + m) (xs ++ news) → Mod (fun k => v.ownBlock = some k) w w' → (∀ k, (Value.slice A' (n + m) c').ownBlock = some k → v.ownBlock = some k ∨ w.heap.size ≤ k) → K (a.put o.dst (.slice A' (n + m) c')) w') :
    if Region.wanted o (yielded ops a.tmps) = true then Oper.wp P o a w K Q else E := by
  have hw : Region.wanted o (yielded ops a.tmps) = true := by simp [Region.wanted, hgd]
  rw [if_pos hw]
  obtain ⟨v', w', hrun, h2, h3, _, h5⟩ := run_append_own_at (P := P) w base t o.type e i z size bytes ht hi hz hsize hby hzs hsz v n xs hown ad m c news hl hr h1 h63 hbytes hbase
  obtain ⟨A', c', rfl, _, _⟩ := own_slice h2
  unfold Oper.wp execOp
  simp only [ho, resolve, invoke, builtin, Sem.run_bind, Sem.run_pure, Result.andThen_ok, List.map_toArray, List.map_cons, List.map_nil, hs, hx, hrun]
  refine h A' c' w' h2 (Mod.of_grown h3) (fun k hk => ?_)
  rcases h5 with h5 | h5
  · exact .inl (h5 ▸ hk)
  · rw [h5] at hk
    injection hk with hk
    exact .inr (by omega)
end
end Go.Proofs.YtefloadjolpgbaaGreatDoor

namespace Go.Proofs.YtefloadjolpgbaaGreatDoor
open Go.RowKit

/-- append, whatever is appended (nil, too), k cells an element: a step. -/
theorem stepn_append {P : Program} (w : World) {ops : Array Oper} {o : Oper} {a : Act} {K : Act → World → Prop} {Q : Exit → Act → World → Prop} {E : Prop} (hgd : o.guard = none) (s x : Operand) (t : TypeId)
    (ho : o.op = .call { callee := .builtin .append, args := #[s, x], argTypes := #[t, t] })
    (base : Nat) (e : TypeId) (i : TypeInfo) (z : Value) (size bytes : Nat) (ht : P.underlying t = some (.slice e)) (hi : P.info? e = some i) (hz : i.zero = some z)
    (hsize : i.size = size) (hby : i.bytes = bytes) (hzs : z.cells.size = size) (hsz : 0 < size)
    (v : Value) (n : Nat) (xs : List Value) (hs : a.eval s = v) (hown : w.ownsRow base e size v n xs)
    (A : Option Addr) (m c : Nat) (news : List Value) (hx : a.eval x = .slice A m c) (hl : news.length = m * size) (hr : 0 < m → ∃ ad, A = some ad ∧ ∀ j u, news[j]? = some u → w.cell? (ad.add j) = some u) (h1 : ∀ u ∈ news, u.oneCell' = true)
    (hA : A = none → m = 0 ∧ c = 0)
    (hbytes : (n + m) * bytes ≤ 140737488355328) (h63 : n + m ≤ maxLen) (hbase : base ≤ w.heap.size)
    (h : ∀ A' c' w', w'.ownsRow base e size (.slice A' (n + m) c') (n + m) (xs ++ news) → Mod (fun k => v.ownBlock = some k) w w' → (∀ k, (Value.slice A' (n + m) c').ownBlock = some k → v.ownBlock = some k ∨ w.heap.size ≤ k) → K (a.put o.dst (.slice A' (n + m) c')) w') :
    if Region.wanted o (yielded ops a.tmps) = true then Oper.wp P o a w K Q else E := by
  have hw : Region.wanted o (yielded ops a.tmps) = true := by simp [Region.wanted, hgd]
  rcases A with _ | ad
  · obtain ⟨rfl, rfl⟩ := hA rfl
    have hnews : news = [] := List.eq_nil_of_length_eq_zero (by simpa using hl)
    subst hnews
    rw [if_pos hw]
    have hrun := run_append_of_nil (P := P) w base t o.type e i size ht hi v n xs hown 0
    obtain ⟨A', c', rfl, _, _⟩ := own_slice hown
    unfold Oper.wp execOp
    simp only [ho, resolve, invoke, builtin, Sem.run_bind, Sem.run_pure, Result.andThen_ok, List.map_toArray, List.map_cons, List.map_nil, hs, hx, hrun]
    exact h A' c' w (by simpa using hown) (Mod.refl _ _) (fun k hk => .inl hk)
  · rcases Nat.eq_zero_or_pos m with h0 | h0
    · subst h0
      have hnews : news = [] := List.eq_nil_of_length_eq_zero (by simpa using hl)
      subst hnews
      exact step_append_k w hgd s x t ho base e i z size bytes ht hi hz hsize hby hzs hsz v n xs hs hown ad 0 c [] hx (by simp) (fun j u hj => by simp at hj) (fun u hu => by simp at hu) hbytes h63 hbase h
    · obtain ⟨ad', he, hr'⟩ := hr h0
      injection he with he
      subst he
      exact step_append_k w hgd s x t ho base e i z size bytes ht hi hz hsize hby hzs hsz v n xs hs hown ad m c news hx hl hr' h1 hbytes h63 hbase h

section
variable {P : Program}
theorem opn_append (w : World) {o : Oper} {a : Act} {K : Act → World → Prop} {Q : Exit → Act → World → Prop} (hgd : o.guard = none) (s x : Operand) (t : TypeId)
    (ho : o.op = .call { callee := .builtin .append, args := #[s, x], argTypes := #[t, t] })
    (base : Nat) (e : TypeId) (i : TypeInfo) (z : Value) (size bytes : Nat) (ht : P.underlying t = some (.slice e)) (hi : P.info? e = some i) (hz : i.zero = some z)
    (hsize : i.size = size) (hby : i.bytes = bytes) (hzs : z.cells.size = size) (hsz : 0 < size)
    (v : Value) (n : Nat) (xs : List Value) (hs : a.eval s = v) (hown : w.ownsRow base e size v n xs)
    (A : Option Addr) (m c : Nat) (news : List Value) (hx : a.eval x = .slice A m c) (hl : news.length = m * size) (hr : 0 < m → ∃ ad, A = some ad ∧ ∀ j u, news[j]? = some u → w.cell? (ad.add j) = some u) (h1 : ∀ u ∈ news, u.oneCell' = true)
    (hbytes : (n + m) * bytes ≤ 140737488355328) (h63 : n + m ≤ maxLen) (hbase : base ≤ w.heap.size)
    (h : ∀ A' c' w', w'.ownsRow base e size (.slice A' (n + m) c') (n + m) (xs ++ news) → Mod (fun k => v.ownBlock = some k) w w' → (∀ k, (Value.slice A' (n + m) c').ownBlock = some k → v.ownBlock = some k ∨ w.heap.size ≤ k) → K (a.put o.dst (.slice A' (n + m) c')) w') :
    Oper.wp P o a w K Q := by
  rcases A with _ | ad
  · have hm0 : m = 0 := by
      rcases Nat.eq_zero_or_pos m with h0 | h0
      · exact h0
      · obtain ⟨ad, e, _⟩ := hr h0
        cases e
    subst hm0
    have hnews : news = [] := List.eq_nil_of_length_eq_zero (by simpa using hl)
    subst hnews
    have hrun := run_append_of_nil (P := P) w base t o.type e i size ht hi v n xs hown c
    obtain ⟨A', c', rfl, _, _⟩ := own_slice hown
    unfold Oper.wp execOp
    simp only [ho, resolve, invoke, builtin, Sem.run_bind, Sem.run_pure, Result.andThen_ok, List.map_toArray, List.map_cons, List.map_nil, hs, hx, hrun]
    exact h A' c' w (by simpa using hown) (Mod.refl _ _) (fun k hk => .inl hk)
  · have hh := stepn_append (P := P) w (ops := #[]) (o := o) (a := a) (K := K) (Q := Q) (E := False) hgd s x t ho base e i z size bytes ht hi hz hsize hby hzs hsz v n xs hs hown (some ad) m c news hx hl hr h1 (fun e => by cases e) hbytes h63 hbase h
    rwa [if_pos (by simp [Region.wanted, hgd])] at hh
end

/-- What an append leaves. -/
structure Apn (base : Nat) (e : TypeId) (size : Nat) (v : Value) (k : Nat) (ys : List Value) (A' : Option Addr) (c' : Nat) (w w' : World) : Prop where
  own : w'.ownsRow base e size (.slice A' k c') k ys
  mod : Mod (fun k => v.ownBlock = some k) w w'
  blk : ∀ j, (Value.slice A' k c').ownBlock = some j → v.ownBlock = some j ∨ w.heap.size ≤ j

theorem sl_appendn {P : Program} {n : Nat} {L : List (Tmp × Value)} {a : Act} {ops : Array Oper} {Q : Exit → Act → World → Prop} {w : World} {rest : List Oper} {o : Oper} {d : Tmp}
    (HF : Sl n L a) (hgd : o.guard = none) (hd : o.dst = some d) (hdn : d < n) {s x : Tmp} {t : TypeId} (ho : o.op = .call { callee := .builtin .append, args := #[.tmp s, .tmp x], argTypes := #[t, t] })
    {base : Nat} {e : TypeId} {i : TypeInfo} {z : Value} {size bytes : Nat} (ht : P.underlying t = some (.slice e)) (hi : P.info? e = some i) (hz : i.zero = some z) (hsize : i.size = size) (hby : i.bytes = bytes) (hzs : z.cells.size = size) (hsz : 0 < size)
    {v : Value} {k : Nat} {xs : List Value} (hs : look L s = some v) (hown : w.ownsRow base e size v k xs) {A : Option Addr} {m c : Nat} {news : List Value} (hx : look L x = some (.slice A m c)) (hl : news.length = m * size) (hr : Rd All w A news)
    (h1 : ∀ u ∈ news, u.oneCell' = true) (hbytes : (k + m) * bytes ≤ 140737488355328) (h63 : k + m ≤ maxLen) (hbase : base ≤ w.heap.size)
    (hk : ∀ A' c' w' a', Sl n ((d, .slice A' (k + m) c') :: L) a' → Apn base e size v (k + m) (xs ++ news) A' c' w w' → wpList P ops Q rest a' w') : wpList P ops Q (o :: rest) a w := by
  refine wpList_plain hgd fun K hK => ?_
  refine opn_append w hgd (.tmp s) (.tmp x) t ho base e i z size bytes ht hi hz hsize hby hzs hsz v k xs (HF.at s hs) hown A m c news (HF.at x hx) hl (fun hm => ?_) h1 hbytes h63 hbase fun A' c' w' h1 h2 h3 => ?_
  · obtain ⟨ad, e1, _, _, e2⟩ := hr (by rw [hl]; exact Nat.mul_pos hm hsz)
    exact ⟨ad, e1, e2⟩
  · rw [hd]
    exact hK _ _ (hk A' c' w' _ (HF.put hdn _) ⟨h1, h2, h3⟩)
end Go.Proofs.YtefloadjolpgbaaGreatDoor

namespace Go.Proofs.YtefloadjolpgbaaGreatDoor
open Go.RowKit

noncomputable def raBody : Code := (Tryz.f5.body).getD .skip

theorem u8_eq_true {c d : UInt8} (h : c = d) : ((c.toNat : Int) == (d.toNat : Int)) = true := by simp [h]

set_option maxHeartbeats 3200000 in
set_option maxRecDepth 100000 in
theorem rall_blank {Q : Exit → Act → World → Prop} {ac : Act} {w : World} {s v5 : Value} {a : Nat} {c : UInt8} (ha : a ≤ 10000)
    (HF : Sl 80 [(0, s), (5, v5), (6, .int .i64 a), (7, .int .u8 c.toNat)] ac)
    (hQ1 : blankL.contains c = true → ∀ ac', Sl 80 [(0, s), (5, v5), (6, .int .i64 ((a : Int) + 1))] ac' → Q (.exit 1) ac' w)
    (hQ0 : blankL.contains c = false → ∀ ac', Sl 80 [(0, s), (5, v5), (6, .int .i64 a), (7, .int .u8 c.toNat)] ac' → Q .normal ac' w) :
    (part [1, 1, 1, 1, 0, 0, 0, 1, 0, 1, 0] raBody).wp Tryz.prog Q ac w := by
  have HQ0 := Lib.hid hQ0
  have HQ1 := Lib.hid hQ1
  have hu := u8_lt c
  clear hQ0 hQ1
  conv => arg 2; whnf
  refine wp_seq (wp_region_lit ?_)
  have hend : ∀ ac' : Act, blankL.contains c = true → Sl 80 [(0, s), (5, v5), (6, .int .i64 a), (34, .bool true)] ac' → True := fun _ _ _ => trivial
  clear hend
  by_cases h32 : c = 32
  · have HB := Lib.hid (show blankL.contains c = true by subst h32; rfl)
    have e1 : ((c.toNat : Int) == 32) = true := u8_eq_true h32
    clear h32
    refine sl_move HF rfl rfl (.inl rfl) (by decide) rfl ?_; clear HF; intro _ HF
    refine sl_op HF rfl rfl (by decide) ?_; intro K hK; have e21 := HF.see 21 rfl; go_wp2_with fail; clear e21 HF; intro _ HF
    refine sl_move HF rfl rfl (.inl rfl) (by decide) rfl ?_; clear HF; intro _ HF
    refine sl_skip HF rfl rfl rfl rfl (by decide) ?_; clear HF; intro _ HF
    refine sl_skip HF rfl rfl rfl rfl (by decide) ?_; clear HF; intro _ HF
    refine sl_op HF rfl rfl (by decide) ?_; intro K hK; have e23 := HF.see 23 rfl; have e25 := HF.see 25 rfl; go_wp2_with fail; clear e23 e25 HF; intro _ HF
    refine sl_move HF rfl rfl (.inl rfl) (by decide) rfl ?_; clear HF; intro _ HF
    refine sl_skip HF rfl rfl rfl rfl (by decide) ?_; clear HF; intro _ HF
    refine sl_skip HF rfl rfl rfl rfl (by decide) ?_; clear HF; intro _ HF
    refine sl_op HF rfl rfl (by decide) ?_; intro K hK; have e27 := HF.see 27 rfl; have e29 := HF.see 29 rfl; go_wp2_with fail; clear e27 e29 HF; intro _ HF
    refine sl_move HF rfl rfl (.inl rfl) (by decide) rfl ?_; clear HF; intro _ HF
    refine sl_skip HF rfl rfl rfl rfl (by decide) ?_; clear HF; intro _ HF
    refine sl_skip HF rfl rfl rfl rfl (by decide) ?_; clear HF; intro _ HF
    refine sl_op HF rfl rfl (by decide) ?_; intro K hK; have e31 := HF.see 31 rfl; have e33 := HF.see 33 rfl; go_wp2_with fail; clear e31 e33 HF; intro _ HF
    refine sl_nil (wp_cond_true (HF.at 34 rfl) (wp_seq (wp_region_lit ?_)))
    refine sl_move HF rfl rfl (.inl rfl) (by decide) rfl ?_; clear HF; intro _ HF
    refine sl_op HF rfl rfl (by decide) ?_; intro K hK; have e35 := HF.see 35 rfl; go_wp2_with fail; clear e35 HF; intro _ HF
    refine sl_move HF rfl rfl (.inr rfl) (by decide) rfl ?_; clear HF; intro _ HF
    exact sl_nil (wp_exit (HQ1.out HB.out _ (HF.keep [0, 5, 6])))
  have e1 : ((c.toNat : Int) == 32) = false := ne_of_u8 h32
  by_cases h9 : c = 9
  · have HB := Lib.hid (show blankL.contains c = true by subst h9; rfl)
    have e2 : ((c.toNat : Int) == 9) = true := u8_eq_true h9
    clear h32 h9
    refine sl_move HF rfl rfl (.inl rfl) (by decide) rfl ?_; clear HF; intro _ HF
    refine sl_op HF rfl rfl (by decide) ?_; intro K hK; have e21 := HF.see 21 rfl; go_wp2_with fail; clear e21 HF; intro _ HF
    refine sl_move HF rfl rfl (.inl rfl) (by decide) rfl ?_; clear HF; intro _ HF
    refine sl_want HF rfl rfl rfl rfl (by decide) ?_; intro K hK; have e7 := HF.see 7 rfl; go_wp2_with fail; clear e7 HF; intro _ HF
    refine sl_want HF rfl rfl rfl rfl (by decide) ?_; intro K hK; have e24 := HF.see 24 rfl; go_wp2_with fail; clear e24 HF; intro _ HF
    refine sl_op HF rfl rfl (by decide) ?_; intro K hK; have e23 := HF.see 23 rfl; have e25 := HF.see 25 rfl; go_wp2_with fail; clear e23 e25 HF; intro _ HF
    refine sl_move HF rfl rfl (.inl rfl) (by decide) rfl ?_; clear HF; intro _ HF
    refine sl_skip HF rfl rfl rfl rfl (by decide) ?_; clear HF; intro _ HF
    refine sl_skip HF rfl rfl rfl rfl (by decide) ?_; clear HF; intro _ HF
    refine sl_op HF rfl rfl (by decide) ?_; intro K hK; have e27 := HF.see 27 rfl; have e29 := HF.see 29 rfl; go_wp2_with fail; clear e27 e29 HF; intro _ HF
    refine sl_move HF rfl rfl (.inl rfl) (by decide) rfl ?_; clear HF; intro _ HF
    refine sl_skip HF rfl rfl rfl rfl (by decide) ?_; clear HF; intro _ HF
    refine sl_skip HF rfl rfl rfl rfl (by decide) ?_; clear HF; intro _ HF
    refine sl_op HF rfl rfl (by decide) ?_; intro K hK; have e31 := HF.see 31 rfl; have e33 := HF.see 33 rfl; go_wp2_with fail; clear e31 e33 HF; intro _ HF
    refine sl_nil (wp_cond_true (HF.at 34 rfl) (wp_seq (wp_region_lit ?_)))
    refine sl_move HF rfl rfl (.inl rfl) (by decide) rfl ?_; clear HF; intro _ HF
    refine sl_op HF rfl rfl (by decide) ?_; intro K hK; have e35 := HF.see 35 rfl; go_wp2_with fail; clear e35 HF; intro _ HF
    refine sl_move HF rfl rfl (.inr rfl) (by decide) rfl ?_; clear HF; intro _ HF
    exact sl_nil (wp_exit (HQ1.out HB.out _ (HF.keep [0, 5, 6])))
  have e2 : ((c.toNat : Int) == 9) = false := ne_of_u8 h9
  by_cases h10 : c = 10
  · have HB := Lib.hid (show blankL.contains c = true by subst h10; rfl)
    have e3 : ((c.toNat : Int) == 10) = true := u8_eq_true h10
    clear h32 h9 h10
    refine sl_move HF rfl rfl (.inl rfl) (by decide) rfl ?_; clear HF; intro _ HF
    refine sl_op HF rfl rfl (by decide) ?_; intro K hK; have e21 := HF.see 21 rfl; go_wp2_with fail; clear e21 HF; intro _ HF
    refine sl_move HF rfl rfl (.inl rfl) (by decide) rfl ?_; clear HF; intro _ HF
    refine sl_want HF rfl rfl rfl rfl (by decide) ?_; intro K hK; have e7 := HF.see 7 rfl; go_wp2_with fail; clear e7 HF; intro _ HF
    refine sl_want HF rfl rfl rfl rfl (by decide) ?_; intro K hK; have e24 := HF.see 24 rfl; go_wp2_with fail; clear e24 HF; intro _ HF
    refine sl_op HF rfl rfl (by decide) ?_; intro K hK; have e23 := HF.see 23 rfl; have e25 := HF.see 25 rfl; go_wp2_with fail; clear e23 e25 HF; intro _ HF
    refine sl_move HF rfl rfl (.inl rfl) (by decide) rfl ?_; clear HF; intro _ HF
    refine sl_want HF rfl rfl rfl rfl (by decide) ?_; intro K hK; have e7 := HF.see 7 rfl; go_wp2_with fail; clear e7 HF; intro _ HF
    refine sl_want HF rfl rfl rfl rfl (by decide) ?_; intro K hK; have e28 := HF.see 28 rfl; go_wp2_with fail; clear e28 HF; intro _ HF
    refine sl_op HF rfl rfl (by decide) ?_; intro K hK; have e27 := HF.see 27 rfl; have e29 := HF.see 29 rfl; go_wp2_with fail; clear e27 e29 HF; intro _ HF
    refine sl_move HF rfl rfl (.inl rfl) (by decide) rfl ?_; clear HF; intro _ HF
    refine sl_skip HF rfl rfl rfl rfl (by decide) ?_; clear HF; intro _ HF
    refine sl_skip HF rfl rfl rfl rfl (by decide) ?_; clear HF; intro _ HF
    refine sl_op HF rfl rfl (by decide) ?_; intro K hK; have e31 := HF.see 31 rfl; have e33 := HF.see 33 rfl; go_wp2_with fail; clear e31 e33 HF; intro _ HF
    refine sl_nil (wp_cond_true (HF.at 34 rfl) (wp_seq (wp_region_lit ?_)))
    refine sl_move HF rfl rfl (.inl rfl) (by decide) rfl ?_; clear HF; intro _ HF
    refine sl_op HF rfl rfl (by decide) ?_; intro K hK; have e35 := HF.see 35 rfl; go_wp2_with fail; clear e35 HF; intro _ HF
    refine sl_move HF rfl rfl (.inr rfl) (by decide) rfl ?_; clear HF; intro _ HF
    exact sl_nil (wp_exit (HQ1.out HB.out _ (HF.keep [0, 5, 6])))
  have e3 : ((c.toNat : Int) == 10) = false := ne_of_u8 h10
  by_cases h13 : c = 13
  · have HB := Lib.hid (show blankL.contains c = true by subst h13; rfl)
    have e4 : ((c.toNat : Int) == 13) = true := u8_eq_true h13
    clear h32 h9 h10 h13
    refine sl_move HF rfl rfl (.inl rfl) (by decide) rfl ?_; clear HF; intro _ HF
    refine sl_op HF rfl rfl (by decide) ?_; intro K hK; have e21 := HF.see 21 rfl; go_wp2_with fail; clear e21 HF; intro _ HF
    refine sl_move HF rfl rfl (.inl rfl) (by decide) rfl ?_; clear HF; intro _ HF
    refine sl_want HF rfl rfl rfl rfl (by decide) ?_; intro K hK; have e7 := HF.see 7 rfl; go_wp2_with fail; clear e7 HF; intro _ HF
    refine sl_want HF rfl rfl rfl rfl (by decide) ?_; intro K hK; have e24 := HF.see 24 rfl; go_wp2_with fail; clear e24 HF; intro _ HF
    refine sl_op HF rfl rfl (by decide) ?_; intro K hK; have e23 := HF.see 23 rfl; have e25 := HF.see 25 rfl; go_wp2_with fail; clear e23 e25 HF; intro _ HF
    refine sl_move HF rfl rfl (.inl rfl) (by decide) rfl ?_; clear HF; intro _ HF
    refine sl_want HF rfl rfl rfl rfl (by decide) ?_; intro K hK; have e7 := HF.see 7 rfl; go_wp2_with fail; clear e7 HF; intro _ HF
    refine sl_want HF rfl rfl rfl rfl (by decide) ?_; intro K hK; have e28 := HF.see 28 rfl; go_wp2_with fail; clear e28 HF; intro _ HF
    refine sl_op HF rfl rfl (by decide) ?_; intro K hK; have e27 := HF.see 27 rfl; have e29 := HF.see 29 rfl; go_wp2_with fail; clear e27 e29 HF; intro _ HF
    refine sl_move HF rfl rfl (.inl rfl) (by decide) rfl ?_; clear HF; intro _ HF
    refine sl_want HF rfl rfl rfl rfl (by decide) ?_; intro K hK; have e7 := HF.see 7 rfl; go_wp2_with fail; clear e7 HF; intro _ HF
    refine sl_want HF rfl rfl rfl rfl (by decide) ?_; intro K hK; have e32 := HF.see 32 rfl; go_wp2_with fail; clear e32 HF; intro _ HF
    refine sl_op HF rfl rfl (by decide) ?_; intro K hK; have e31 := HF.see 31 rfl; have e33 := HF.see 33 rfl; go_wp2_with fail; clear e31 e33 HF; intro _ HF
    refine sl_nil (wp_cond_true (HF.at 34 rfl) (wp_seq (wp_region_lit ?_)))
    refine sl_move HF rfl rfl (.inl rfl) (by decide) rfl ?_; clear HF; intro _ HF
    refine sl_op HF rfl rfl (by decide) ?_; intro K hK; have e35 := HF.see 35 rfl; go_wp2_with fail; clear e35 HF; intro _ HF
    refine sl_move HF rfl rfl (.inr rfl) (by decide) rfl ?_; clear HF; intro _ HF
    exact sl_nil (wp_exit (HQ1.out HB.out _ (HF.keep [0, 5, 6])))
  have e4 : ((c.toNat : Int) == 13) = false := ne_of_u8 h13
  have HB := Lib.hid (show blankL.contains c = false by simp [blankL, h32, h9, h10, h13])
  clear h32 h9 h10 h13
  refine sl_move HF rfl rfl (.inl rfl) (by decide) rfl ?_; clear HF; intro _ HF
  refine sl_op HF rfl rfl (by decide) ?_; intro K hK; have e21 := HF.see 21 rfl; go_wp2_with fail; clear e21 HF; intro _ HF
  refine sl_move HF rfl rfl (.inl rfl) (by decide) rfl ?_; clear HF; intro _ HF
  refine sl_want HF rfl rfl rfl rfl (by decide) ?_; intro K hK; have e7 := HF.see 7 rfl; go_wp2_with fail; clear e7 HF; intro _ HF
  refine sl_want HF rfl rfl rfl rfl (by decide) ?_; intro K hK; have e24 := HF.see 24 rfl; go_wp2_with fail; clear e24 HF; intro _ HF
  refine sl_op HF rfl rfl (by decide) ?_; intro K hK; have e23 := HF.see 23 rfl; have e25 := HF.see 25 rfl; go_wp2_with fail; clear e23 e25 HF; intro _ HF
  refine sl_move HF rfl rfl (.inl rfl) (by decide) rfl ?_; clear HF; intro _ HF
  refine sl_want HF rfl rfl rfl rfl (by decide) ?_; intro K hK; have e7 := HF.see 7 rfl; go_wp2_with fail; clear e7 HF; intro _ HF
  refine sl_want HF rfl rfl rfl rfl (by decide) ?_; intro K hK; have e28 := HF.see 28 rfl; go_wp2_with fail; clear e28 HF; intro _ HF
  refine sl_op HF rfl rfl (by decide) ?_; intro K hK; have e27 := HF.see 27 rfl; have e29 := HF.see 29 rfl; go_wp2_with fail; clear e27 e29 HF; intro _ HF
  refine sl_move HF rfl rfl (.inl rfl) (by decide) rfl ?_; clear HF; intro _ HF
  refine sl_want HF rfl rfl rfl rfl (by decide) ?_; intro K hK; have e7 := HF.see 7 rfl; go_wp2_with fail; clear e7 HF; intro _ HF
  refine sl_want HF rfl rfl rfl rfl (by decide) ?_; intro K hK; have e32 := HF.see 32 rfl; go_wp2_with fail; clear e32 HF; intro _ HF
  refine sl_op HF rfl rfl (by decide) ?_; intro K hK; have e31 := HF.see 31 rfl; have e33 := HF.see 33 rfl; go_wp2_with fail; clear e31 e33 HF; intro _ HF
  exact sl_nil (wp_cond_false (HF.at 34 rfl) (wp_skip (HQ0.out HB.out _ (HF.keep [0, 5, 6, 7]))))

def RemI (l : List UInt8) (a : Nat) (v5 : Value) (w0 : World) (ac : Act) (w : World) : Prop :=
  ∃ i : Nat, Sl 80 [(0, .string (str l)), (5, v5), (6, .int .i64 a), (8, .int .i64 (i : Nat))] ac ∧ w = w0 ∧ a + 1 ≤ i ∧ i ≤ l.length ∧ ∀ j c, a + 1 ≤ j → j < i → l[j]? = some c → c ≠ 34

set_option maxHeartbeats 3200000 in
set_option maxRecDepth 100000 in
theorem rall_rem {Q : Exit → Act → World → Prop} {ac : Act} {w : World} {l : List UInt8} {v5 : Value} {a : Nat} (hl : l.length ≤ 5000) (ha : a < l.length)
    (HF : Sl 80 [(0, .string (str l)), (5, v5), (6, .int .i64 a)] ac)
    (hQ0 : (∀ j c, a + 1 ≤ j → j < l.length → l[j]? = some c → c ≠ 34) → ∀ ac', Sl 80 [(2, .slice none 0 0), (3, .int .i64 40), (4, .int .i64 a)] ac' → Q .ret ac' w)
    (hQ1 : ∀ i, a + 1 ≤ i → (∀ j c, a + 1 ≤ j → j < i → l[j]? = some c → c ≠ 34) → l[i]? = some 34 → ∀ ac', Sl 80 [(0, .string (str l)), (5, v5), (6, .int .i64 ((i : Int) + 1))] ac' → Q (.exit 1) ac' w) :
    (part [1, 1, 1, 1, 0, 0, 0, 1, 0, 1, 1, 0, 1, 0] raBody).wp Tryz.prog Q ac w := by
  have HQ0 := Lib.hid hQ0
  have HQ1 := Lib.hid hQ1
  have hsz := str_size l
  clear hQ0 hQ1
  conv => arg 2; whnf
  refine wp_seq (wp_region_lit ?_)
  refine sl_move HF rfl rfl (.inl rfl) (by decide) rfl ?_; clear HF; intro _ HF
  refine sl_op HF rfl rfl (by decide) ?_; intro K hK; have e39 := HF.see 39 rfl; go_wp2_with fail; clear e39 HF; intro _ HF
  refine sl_move HF rfl rfl (.inr rfl) (by decide) rfl ?_; clear HF; intro _ HF
  refine sl_nil (wp_seq (wp_block (wp_loop (RemI l a v5 w) (fun ac _ => l.length - (intOf (ac.eval (.tmp 8))).toNat) ?_ ?_)))
  · refine ⟨a + 1, ?_, rfl, Nat.le_refl _, ha, fun j c h1 h2 => by omega⟩
    have := HF.keep [0, 5, 6, 8]
    rw [show ((a + 1 : Nat) : Int) = (a : Int) + 1 by omega]
    exact this
  · clear HF
    rintro ac2 w2 ⟨i, HF, rfl, h1, h2, h3⟩
    have hmu : l.length - (intOf ((ac2.tmps[8]?).getD undef)).toNat = l.length - i := by rw [HF.see 8 rfl]; simp [intOf]
    have HMU := Lib.hid hmu
    have HNO := Lib.hid h3
    clear hmu h3
    by_cases hi : i < l.length
    · obtain ⟨d, hx⟩ : ∃ d, l[i]? = some d := ⟨_, List.getElem?_eq_getElem hi⟩
      have hg := str_getE hx (by omega)
      have HX := Lib.hid hx
      have hu := u8_lt d
      have hlt' : decide ((i : Int) < l.length) = true := by simp; omega
      clear hx
      refine wp_seq (wp_seq (wp_region_lit ?_))
      by_cases h34 : d = 34
      · have e1 : ((d.toNat : Int) == 34) = true := u8_eq_true h34
        have e2 : ((d.toNat : Int) != 34) = false := by rw [bne, e1]; rfl
        have hne : ((i : Int) == (l.length : Int)) = false := by simp; omega
        subst h34
        refine sl_move HF rfl rfl (.inl rfl) (by decide) rfl ?_; clear HF; intro _ HF
        refine sl_move HF rfl rfl (.inl rfl) (by decide) rfl ?_; clear HF; intro _ HF
        refine sl_op HF rfl rfl (by decide) ?_; intro K hK; have e42 := HF.see 42 rfl; go_wp2_with fail; clear e42 HF; intro _ HF
        refine sl_op HF rfl rfl (by decide) ?_; intro K hK; have e41 := HF.see 41 rfl; have e43 := HF.see 43 rfl; go_wp2_with fail; clear e41 e43 HF; intro _ HF
        refine sl_move HF rfl rfl (.inl rfl) (by decide) rfl ?_; clear HF; intro _ HF
        refine sl_want HF rfl rfl rfl rfl (by decide) ?_; intro K hK; have e0 := HF.see 0 rfl; go_wp2_with fail; clear e0 HF; intro _ HF
        refine sl_want HF rfl rfl rfl rfl (by decide) ?_; intro K hK; have e8 := HF.see 8 rfl; go_wp2_with fail; clear e8 HF; intro _ HF
        refine sl_want HF rfl rfl rfl rfl (by decide) ?_; intro K hK; have e46 := HF.see 46 rfl; have e47 := HF.see 47 rfl; go_wp2_with fail; clear e46 e47 HF; intro _ HF
        refine sl_want HF rfl rfl rfl rfl (by decide) ?_; intro K hK; have e48 := HF.see 48 rfl; go_wp2_with fail; clear e48 HF; intro _ HF
        refine sl_op HF rfl rfl (by decide) ?_; intro K hK; have e45 := HF.see 45 rfl; have e49 := HF.see 49 rfl; go_wp2_with fail; clear e45 e49 HF; intro _ HF
        refine sl_nil (wp_cond_false (HF.at 50 rfl) (wp_exit ?_))
        dsimp only [Exit.then]
        refine sl_exit (sl_then (wp_seq (wp_seq (wp_region_lit ?_))))
        refine sl_move HF rfl rfl (.inl rfl) (by decide) rfl ?_; clear HF; intro _ HF
        refine sl_move HF rfl rfl (.inl rfl) (by decide) rfl ?_; clear HF; intro _ HF
        refine sl_op HF rfl rfl (by decide) ?_; intro K hK; have e54 := HF.see 54 rfl; go_wp2_with fail; clear e54 HF; intro _ HF
        refine sl_op HF rfl rfl (by decide) ?_; intro K hK; have e53 := HF.see 53 rfl; have e55 := HF.see 55 rfl; go_wp2_with fail; clear e53 e55 HF; intro _ HF
        refine sl_nil (wp_cond_false (HF.at 56 rfl) (wp_skip (sl_then (wp_seq (wp_region_lit ?_)))))
        refine sl_move HF rfl rfl (.inl rfl) (by decide) rfl ?_; clear HF; intro _ HF
        refine sl_op HF rfl rfl (by decide) ?_; intro K hK; have e58 := HF.see 58 rfl; go_wp2_with fail; clear e58 HF; intro _ HF
        refine sl_move HF rfl rfl (.inr rfl) (by decide) rfl ?_; clear HF; intro _ HF
        exact sl_nil (wp_exit (HQ1.out i h1 HNO.out HX.out _ (HF.keep [0, 5, 6])))
      · have e1 : ((d.toNat : Int) == 34) = false := ne_of_u8 h34
        have e2 : ((d.toNat : Int) != 34) = true := by rw [bne, e1]; rfl
        have HD := Lib.hid h34
        clear h34
        refine sl_move HF rfl rfl (.inl rfl) (by decide) rfl ?_; clear HF; intro _ HF
        refine sl_move HF rfl rfl (.inl rfl) (by decide) rfl ?_; clear HF; intro _ HF
        refine sl_op HF rfl rfl (by decide) ?_; intro K hK; have e42 := HF.see 42 rfl; go_wp2_with fail; clear e42 HF; intro _ HF
        refine sl_op HF rfl rfl (by decide) ?_; intro K hK; have e41 := HF.see 41 rfl; have e43 := HF.see 43 rfl; go_wp2_with fail; clear e41 e43 HF; intro _ HF
        refine sl_move HF rfl rfl (.inl rfl) (by decide) rfl ?_; clear HF; intro _ HF
        refine sl_want HF rfl rfl rfl rfl (by decide) ?_; intro K hK; have e0 := HF.see 0 rfl; go_wp2_with fail; clear e0 HF; intro _ HF
        refine sl_want HF rfl rfl rfl rfl (by decide) ?_; intro K hK; have e8 := HF.see 8 rfl; go_wp2_with fail; clear e8 HF; intro _ HF
        refine sl_want HF rfl rfl rfl rfl (by decide) ?_; intro K hK; have e46 := HF.see 46 rfl; have e47 := HF.see 47 rfl; go_wp2_with fail; clear e46 e47 HF; intro _ HF
        refine sl_want HF rfl rfl rfl rfl (by decide) ?_; intro K hK; have e48 := HF.see 48 rfl; go_wp2_with fail; clear e48 HF; intro _ HF
        refine sl_op HF rfl rfl (by decide) ?_; intro K hK; have e45 := HF.see 45 rfl; have e49 := HF.see 49 rfl; go_wp2_with fail; clear e45 e49 HF; intro _ HF
        refine sl_nil (wp_cond_true (HF.at 50 rfl) (wp_skip (sl_then (wp_block (wp_region_lit ?_)))))
        refine sl_move HF rfl rfl (.inl rfl) (by decide) rfl ?_; clear HF; intro _ HF
        refine sl_op HF rfl rfl (by decide) ?_; intro K hK; have e51 := HF.see 51 rfl; go_wp2_with fail; clear e51 HF; intro _ HF
        refine sl_move HF rfl rfl (.inr rfl) (by decide) rfl ?_; clear HF; intro _ HF
        refine wpList_nil ?_
        refine ⟨⟨i + 1, ?_, rfl, by omega, hi, fun j c k1 k2 hj => ?_⟩, ?_⟩
        · have := HF.keep [0, 5, 6, 8]
          rw [show ((i + 1 : Nat) : Int) = (i : Int) + 1 by omega]
          exact this
        · rcases Nat.lt_or_ge j i with k3 | k3
          · exact HNO.out j c k1 k3 hj
          · obtain rfl : j = i := by omega
            rw [HX.out] at hj
            cases hj
            exact HD.out
        · have e9 := HF.see 8 rfl
          try simp only [Act.eval_tmp]
          rw [HMU.out, e9]
          simp only [intOf]
          omega
    · have hge : decide ((i : Int) < l.length) = false := by simp; omega
      obtain rfl : i = l.length := by omega
      refine wp_seq (wp_seq (wp_region_lit ?_))
      refine sl_move HF rfl rfl (.inl rfl) (by decide) rfl ?_; clear HF; intro _ HF
      refine sl_move HF rfl rfl (.inl rfl) (by decide) rfl ?_; clear HF; intro _ HF
      refine sl_op HF rfl rfl (by decide) ?_; intro K hK; have e42 := HF.see 42 rfl; go_wp2_with fail; clear e42 HF; intro _ HF
      refine sl_op HF rfl rfl (by decide) ?_; intro K hK; have e41 := HF.see 41 rfl; have e43 := HF.see 43 rfl; go_wp2_with fail; clear e41 e43 HF; intro _ HF
      refine sl_move HF rfl rfl (.inl rfl) (by decide) rfl ?_; clear HF; intro _ HF
      refine sl_skip HF rfl rfl rfl rfl (by decide) ?_; clear HF; intro _ HF
      refine sl_skip HF rfl rfl rfl rfl (by decide) ?_; clear HF; intro _ HF
      refine sl_skip HF rfl rfl rfl rfl (by decide) ?_; clear HF; intro _ HF
      refine sl_skip HF rfl rfl rfl rfl (by decide) ?_; clear HF; intro _ HF
      refine sl_op HF rfl rfl (by decide) ?_; intro K hK; have e45 := HF.see 45 rfl; have e49 := HF.see 49 rfl; go_wp2_with fail; clear e45 e49 HF; intro _ HF
      refine sl_nil (wp_cond_false (HF.at 50 rfl) (wp_exit ?_))
      dsimp only [Exit.then]
      refine sl_exit (sl_then (wp_seq (wp_seq (wp_region_lit ?_))))
      refine sl_move HF rfl rfl (.inl rfl) (by decide) rfl ?_; clear HF; intro _ HF
      refine sl_move HF rfl rfl (.inl rfl) (by decide) rfl ?_; clear HF; intro _ HF
      refine sl_op HF rfl rfl (by decide) ?_; intro K hK; have e54 := HF.see 54 rfl; go_wp2_with fail; clear e54 HF; intro _ HF
      refine sl_op HF rfl rfl (by decide) ?_; intro K hK; have e53 := HF.see 53 rfl; have e55 := HF.see 55 rfl; go_wp2_with fail; clear e53 e55 HF; intro _ HF
      refine sl_nil (wp_cond_true (HF.at 56 rfl) (wp_seq (wp_region_lit ?_)))
      refine sl_move HF rfl rfl (.inl rfl) (by decide) rfl ?_; clear HF; intro _ HF
      refine sl_const HF rfl rfl (.inr rfl) (by decide) ?_; clear HF; intro _ HF
      refine sl_const HF rfl rfl (.inr rfl) (by decide) ?_; clear HF; intro _ HF
      refine sl_move HF rfl rfl (.inr rfl) (by decide) rfl ?_; clear HF; intro _ HF
      exact sl_nil (wp_ret (HQ0.out HNO.out _ (HF.keep [2, 3, 4])))
end Go.Proofs.YtefloadjolpgbaaGreatDoor

namespace Go.Proofs.YtefloadjolpgbaaGreatDoor
open Go.RowKit

theorem sl_ret3 {P : Program} {n : Nat} {L : List (Tmp × Value)} {a : Act} {fn : Func} {R : Ending → World → Prop} {w : World} {t u s : Tmp} {v x y : Value} (h : Sl n L a) (hr : fn.results = #[.tmp t, .tmp u, .tmp s]) (e : look L t = some v) (e' : look L u = some x) (e'' : look L s = some y) (hR : R (.returned (.tuple #[v, x, y])) w) : bodyPost P fn R .ret a w :=
  bodyPost_ret (results_tmp3 hr _ _ _) h.nd (by have h1 := h.sees t v e; have h2 := h.sees u x e'; have h3 := h.sees s y e''; simp only [Act.eval] at h1 h2 h3; rw [h1, h2, h3]; exact hR)

def RAllI (w0 : World) (l : List UInt8) (ac : Act) (w : World) : Prop :=
  ∃ (a : Nat) (done : List (Tok × Nat)) (A : Option Addr) (c : Nat), Sl 80 [(0, .string (str l)), (5, .slice A done.length c), (6, .int .i64 a)] ac ∧ RaSt w0 l (.slice A done.length c) a done w

theorem tok_info : (Tryz.prog.info? 30).map (fun i => (i.zero, i.size, i.bytes)) = some (some (.agg #[.int .i64 0, .string ⟨#[]⟩, .int .i64 0, .int .i64 0]), 4, 40) := by kernel_rfl
theorem tkC_one (p : Tok × Nat) : ∀ u ∈ tkC p, u.oneCell' = true := by
  intro u hu
  simp [tkC] at hu
  rcases hu with rfl | rfl | rfl | rfl <;> rfl

set_option maxHeartbeats 3200000 in
set_option maxRecDepth 100000 in
theorem rAll_any (l : List UInt8) (hl : l.length ≤ 5000) (w : World) : Calls Tryz.prog 5 #[.string (str l)] w fun e w' => AllIs w.heap.size (allR l) e w' ∧ Mod Nil w w' := by
  have hsz := str_size l
  refine sl_enter (n := 80) (fn := Tryz.f5) (c := raBody) Tryz.func5 rfl rfl (by simp) fun ac HF => ?_
  conv => arg 2; whnf
  refine wp_seq (wp_region_lit ?_)
  refine sl_const HF rfl rfl (.inr rfl) (by decide) ?_; clear HF; intro _ HF
  refine sl_const HF rfl rfl (.inr rfl) (by decide) ?_; clear HF; intro _ HF
  refine sl_const HF rfl rfl (.inr rfl) (by decide) ?_; clear HF; intro _ HF
  refine sl_nil (wp_seq (wp_seq (wp_region_lit ?_)))
  by_cases hbig : 4000 < l.length
  · have HR := Lib.hid (show allR l = .error (21, 0) by unfold allR; rw [if_pos hbig])
    have hb : decide (4000 < (l.length : Int)) = true := by simp; omega
    clear hbig
    refine sl_move HF rfl rfl (.inl rfl) (by decide) rfl ?_; clear HF; intro _ HF
    refine sl_op HF rfl rfl (by decide) ?_; intro K hK; have e11 := HF.see 11 rfl; go_wp2_with fail; clear e11 HF; intro _ HF
    refine sl_op HF rfl rfl (by decide) ?_; intro K hK; have e12 := HF.see 12 rfl; go_wp2_with fail; clear e12 HF; intro _ HF
    refine sl_nil (wp_cond_true (HF.at 13 rfl) (wp_seq (wp_region_lit ?_)))
    refine sl_const HF rfl rfl (.inr rfl) (by decide) ?_; clear HF; intro _ HF
    refine sl_const HF rfl rfl (.inr rfl) (by decide) ?_; clear HF; intro _ HF
    refine sl_const HF rfl rfl (.inr rfl) (by decide) ?_; clear HF; intro _ HF
    refine sl_nil (wp_ret ?_)
    try dsimp only [Exit.then]
    exact sl_ret3 HF rfl rfl rfl rfl (by rw [HR.out]; exact ⟨rfl, Mod.refl _ _⟩)
  have hb : decide (4000 < (l.length : Int)) = false := by simp; omega
  have HRE := Lib.hid (show ∀ p, allL l = .error p → allR l = .error (40, p) from fun p h => by unfold allR; rw [if_neg hbig, h])
  have HRO := Lib.hid (show ∀ ts, allL l = .ok ts → allR l = .ok ts from fun p h => by unfold allR; rw [if_neg hbig, h])
  obtain ⟨i0, hi, hz0, hz1, hz2⟩ := info_parts tok_info
  have HI := Lib.hid hi
  have HZ0 := Lib.hid hz0
  have HZ1 := Lib.hid hz1
  have HZ2 := Lib.hid hz2
  clear hbig hi hz0 hz1 hz2
  refine sl_move HF rfl rfl (.inl rfl) (by decide) rfl ?_; clear HF; intro _ HF
  refine sl_op HF rfl rfl (by decide) ?_; intro K hK; have e11 := HF.see 11 rfl; go_wp2_with fail; clear e11 HF; intro _ HF
  refine sl_op HF rfl rfl (by decide) ?_; intro K hK; have e12 := HF.see 12 rfl; go_wp2_with fail; clear e12 HF; intro _ HF
  refine sl_nil (wp_cond_false (HF.at 13 rfl) (wp_skip (sl_then (wp_seq (wp_region_lit ?_)))))
  clear hb
  refine sl_const HF rfl rfl (.inr rfl) (by decide) ?_; clear HF; intro _ HF
  refine sl_nil (wp_seq (wp_region_lit ?_))
  refine sl_const HF rfl rfl (.inr rfl) (by decide) ?_; clear HF; intro _ HF
  refine sl_nil (wp_seq (wp_block (wp_loop (RAllI w l) (fun ac _ => l.length - (intOf (ac.eval (.tmp 6))).toNat) ?_ ?_)))
  · exact ⟨0, [], none, 0, HF.keep [0, 5, 6], ⟨Nat.zero_le _, by rw [pre_nil]; rfl, Nat.le_refl _, World.ownsRow_nil _ _ _ _, Mod.refl _ _⟩⟩
  · clear HF
    rintro ac2 w2 ⟨a, done, A, cp, HF, hst⟩
    have hmu : l.length - (intOf ((ac2.tmps[6]?).getD undef)).toNat = l.length - a := by rw [HF.see 6 rfl]; simp [intOf]
    have HMU := Lib.hid hmu
    have HST := Lib.hid hst
    have hle := hst.le
    have hlen := hst.len
    have hw2 := hst.mod.size
    clear hmu hst
    by_cases ha : a < l.length
    · obtain ⟨c, hc⟩ : ∃ c, l[a]? = some c := ⟨_, List.getElem?_eq_getElem ha⟩
      have hg := str_getE hc (by omega)
      have HC := Lib.hid hc
      have hlt : decide ((a : Int) < l.length) = true := by simp; omega
      have hu := u8_lt c
      clear hc
      refine wp_seq (wp_seq (wp_region_lit ?_))
      refine sl_move HF rfl rfl (.inl rfl) (by decide) rfl ?_; clear HF; intro _ HF
      refine sl_move HF rfl rfl (.inl rfl) (by decide) rfl ?_; clear HF; intro _ HF
      refine sl_op HF rfl rfl (by decide) ?_; intro K hK; have e15 := HF.see 15 rfl; go_wp2_with fail; clear e15 HF; intro _ HF
      refine sl_op HF rfl rfl (by decide) ?_; intro K hK; have e14 := HF.see 14 rfl; have e16 := HF.see 16 rfl; go_wp2_with fail; clear e14 e16 HF; intro _ HF
      refine sl_nil (wp_cond_true (HF.at 17 rfl) (wp_skip (sl_then (wp_block (wp_seq (wp_region_lit ?_))))))
      refine sl_move HF rfl rfl (.inl rfl) (by decide) rfl ?_; clear HF; intro _ HF
      refine sl_move HF rfl rfl (.inl rfl) (by decide) rfl ?_; clear HF; intro _ HF
      refine sl_op HF rfl rfl (by decide) ?_; intro K hK; have e18 := HF.see 18 rfl; have e19 := HF.see 19 rfl; go_wp2_with fail; clear e18 e19 HF; intro _ HF
      refine sl_move HF rfl rfl (.inr rfl) (by decide) rfl ?_; clear HF; intro _ HF
      refine sl_nil (wp_seq ?_)
      have hloop : ∀ (a' : Nat) (done' : List (Tok × Nat)) (A' : Option Addr) (cp' : Nat) (ac' : Act) (w' : World), a < a' → Sl 80 [(0, .string (str l)), (5, .slice A' done'.length cp'), (6, .int .i64 (a' : Nat))] ac' → RaSt w l (.slice A' done'.length cp') a' done' w' → RAllI w l ac' w' ∧ l.length - (intOf (ac'.eval (.tmp 6))).toNat < l.length - (intOf (ac2.eval (.tmp 6))).toNat := by
        intro a' done' A' cp' ac' w' h1 h2 h3
        refine ⟨⟨a', done', A', cp', h2, h3⟩, ?_⟩
        have e9 := h2.see 6 rfl
        simp only [Act.eval_tmp]
        rw [HMU.out, e9]
        simp only [intOf]
        omega
      have HLOOP := Lib.hid hloop
      clear hloop
      refine (rall_blank (c := c) (a := a) (by omega) (HF.keep [0, 5, 6, 7]) (fun hb ac' HF => ?_) (fun hb ac' HF => ?_))
      · dsimp only [Exit.then]
        refine sl_exit ?_
        rw [show (a : Int) + 1 = ((a + 1 : Nat) : Int) by omega] at HF
        exact HLOOP.out _ _ _ _ _ _ (by omega) HF (HST.out.blank HC.out hb)
      have HB := Lib.hid hb
      clear hb
      refine sl_then (wp_seq (wp_seq (wp_region_lit ?_)))
      by_cases h34 : c = 34
      · have e1 : ((c.toNat : Int) == 34) = true := u8_eq_true h34
        have HC' := Lib.hid (show l[a]? = some 34 by rw [HC.out, h34])
        clear h34
        refine sl_move HF rfl rfl (.inl rfl) (by decide) rfl ?_; clear HF; intro _ HF
        refine sl_op HF rfl rfl (by decide) ?_; intro K hK; have e37 := HF.see 37 rfl; go_wp2_with fail; clear e37 HF; intro _ HF
        refine sl_nil (wp_cond_true (HF.at 38 rfl) ?_)
        refine rall_rem hl ha (HF.keep [0, 5, 6]) (fun hno ac' HF => ?_) (fun i h1 hno hx ac' HF => ?_)
        · have HE := Lib.hid (HRE.out a (HST.out.remOpen HC'.out hno))
          dsimp only [Exit.then, Exit.inBlock]
          exact sl_ret3 HF rfl rfl rfl rfl (by rw [HE.out]; exact ⟨rfl, HST.out.mod⟩)
        · dsimp only [Exit.then]
          refine sl_exit ?_
          rw [show (i : Int) + 1 = ((i + 1 : Nat) : Int) by omega] at HF
          exact HLOOP.out _ _ _ _ _ _ (by omega) HF (HST.out.rem HC'.out h1 hno hx)
      have e1 : ((c.toNat : Int) == 34) = false := ne_of_u8 h34
      have HN := Lib.hid h34
      clear h34
      refine sl_move HF rfl rfl (.inl rfl) (by decide) rfl ?_; clear HF; intro _ HF
      refine sl_op HF rfl rfl (by decide) ?_; intro K hK; have e37 := HF.see 37 rfl; go_wp2_with fail; clear e37 HF; intro _ HF
      refine sl_nil (wp_cond_false (HF.at 38 rfl) (wp_skip (sl_then (wp_seq (wp_region_lit ?_)))))
      refine sl_move HF rfl rfl (.inl rfl) (by decide) rfl ?_; clear HF; intro _ HF
      refine sl_move HF rfl rfl (.inl rfl) (by decide) rfl ?_; clear HF; intro _ HF
      refine sl_op HF rfl rfl (by decide) ?_; intro K hK; have e61 := HF.see 61 rfl; have e62 := HF.see 62 rfl; go_wp2_with fail
      refine (rToken_any l a hl ha _).mono ?_
      rintro e w3 ⟨t, z, rfl, hs, hn, hm3⟩
      have HM3 := Lib.hid hm3
      rcases ht : tokL (l.drop a) with _ | ⟨t', k⟩
      · obtain rfl := hn ht
        have HE := Lib.hid (HRE.out a (HST.out.bad HC.out HB.out HN.out ht))
        clear hs hn hm3 ht
        go_wp2_with fail; clear e61 e62 HF; intro _ HF
        simp only [tokV] at HF
        refine sl_move HF rfl rfl (.inl rfl) (by decide) rfl ?_; clear HF; intro _ HF
        refine sl_op HF rfl rfl (by decide) ?_; intro K hK; have e60 := HF.see 60 rfl; go_wp2_with fail; clear e60 HF; intro _ HF
        refine sl_op HF rfl rfl (by decide) ?_; intro K hK; have e60 := HF.see 60 rfl; go_wp2_with fail; clear e60 HF; intro _ HF
        refine sl_op HF rfl rfl (by decide) ?_; intro K hK; go_wp2_with fail; clear HF; intro _ HF
        refine sl_op0 HF rfl rfl ?_; intro K hK; have e9 := HF.see 9 rfl; have e64 := HF.see 64 rfl; go_wp2_with fail; clear e9 e64 HF; intro _ HF
        refine sl_move HF rfl rfl (.inr rfl) (by decide) rfl ?_; clear HF; intro _ HF
        refine sl_nil (wp_seq (wp_seq (wp_region_lit ?_)))
        refine sl_move HF rfl rfl (.inl rfl) (by decide) rfl ?_; clear HF; intro _ HF
        refine sl_op HF rfl rfl (by decide) ?_; intro K hK; have e66 := HF.see 66 rfl; go_wp2_with fail; clear e66 HF; intro _ HF
        refine sl_nil (wp_cond_true (HF.at 67 rfl) (wp_seq (wp_region_lit ?_)))
        refine sl_move HF rfl rfl (.inl rfl) (by decide) rfl ?_; clear HF; intro _ HF
        refine sl_const HF rfl rfl (.inr rfl) (by decide) ?_; clear HF; intro _ HF
        refine sl_const HF rfl rfl (.inr rfl) (by decide) ?_; clear HF; intro _ HF
        refine sl_move HF rfl rfl (.inr rfl) (by decide) rfl ?_; clear HF; intro _ HF
        refine sl_nil (wp_ret ?_)
        dsimp only [Exit.then, Exit.inBlock]
        exact sl_ret3 HF rfl rfl rfl rfl (by rw [HE.out]; exact ⟨rfl, (HST.out.mod.trans HM3.out).alloc _⟩)
      · obtain ⟨rfl, rfl⟩ := hs t' k ht
        have HT := Lib.hid ht
        have hk1 := (tokL_len ht).1
        have hk2 := (tokL_len ht).2.1
        rw [List.length_drop] at hk2
        clear hs hn hm3 ht
        go_wp2_with fail; clear e61 e62 HF; intro _ HF
        simp only [tokV] at HF
        have hz0 : decide (((a + k : Nat) : Int) < 0) = false := by simp; omega
        generalize hz : ((a + k : Nat) : Int) = z at HF hz0
        have HZ := Lib.hid hz
        have HM4 := Lib.hid ((HST.out.mod.trans HM3.out).alloc (.cells #[.int .i64 t.kind, .string (str t.text), .int .i64 t.n, .int .i64 a] 30))
        have hbl : Blk (w3.alloc (.cells #[.int .i64 t.kind, .string (str t.text), .int .i64 t.n, .int .i64 a] 30)) w3.heap.size 30 #[.int .i64 t.kind, .string (str t.text), .int .i64 t.n, .int .i64 a] := Blk.new _ _ _
        have HBL := Lib.hid hbl
        have HO4 := Lib.hid (own_keep (own_keep HST.out.own HM3.out (fun _ _ => id)) ((Mod.refl Nil w3).alloc (.cells #[.int .i64 t.kind, .string (str t.text), .int .i64 t.n, .int .i64 a] 30)) (fun _ _ => id))
        have hw3 := HM3.out.size
        clear hz hbl
        refine sl_move HF rfl rfl (.inl rfl) (by decide) rfl ?_; clear HF; intro _ HF
        refine sl_op HF rfl rfl (by decide) ?_; intro K hK; have e60 := HF.see 60 rfl; go_wp2_with fail; clear e60 HF; intro _ HF
        refine sl_op HF rfl rfl (by decide) ?_; intro K hK; have e60 := HF.see 60 rfl; go_wp2_with fail; clear e60 HF; intro _ HF
        refine sl_op HF rfl rfl (by decide) ?_; intro K hK; go_wp2_with fail; clear HF; intro _ HF
        refine sl_op0 HF rfl rfl ?_; intro K hK; have e9 := HF.see 9 rfl; have e64 := HF.see 64 rfl; go_wp2_with fail; clear e9 e64 HF; intro _ HF
        refine sl_move HF rfl rfl (.inr rfl) (by decide) rfl ?_; clear HF; intro _ HF
        generalize w3.alloc (.cells #[.int .i64 t.kind, .string (str t.text), .int .i64 t.n, .int .i64 a] 30) = W at HM4 HBL HO4 ⊢
        generalize w3.heap.size = g at HBL HF
        refine sl_nil (wp_seq (wp_seq (wp_region_lit ?_)))
        refine sl_move HF rfl rfl (.inl rfl) (by decide) rfl ?_; clear HF; intro _ HF
        refine sl_op HF rfl rfl (by decide) ?_; intro K hK; have e66 := HF.see 66 rfl; go_wp2_with fail; clear e66 HF; intro _ HF
        refine sl_nil (wp_cond_false (HF.at 67 rfl) (wp_skip (sl_then (wp_seq (wp_region_lit ?_)))))
        have c0 := HBL.out.cell 0
        have c1 := HBL.out.cell 1
        have c2 := HBL.out.cell 2
        have c3 := HBL.out.cell 3
        refine sl_move HF rfl rfl (.inl rfl) (by decide) rfl ?_; clear HF; intro _ HF
        refine sl_op HF rfl rfl (by decide) ?_; intro K hK; have e9 := HF.see 9 rfl; go_wp2_with fail; clear e9 HF; intro _ HF
        refine sl_op HF rfl rfl (by decide) ?_; intro K hK; have e70 := HF.see 70 rfl; go_wp2_with fail; clear e70 HF; intro _ HF
        clear c0 c1 c2 c3
        have hws := HM4.out.size
        refine sl_appendn HF rfl rfl (by decide) rfl Tryz.underlying23 HI.out HZ0.out HZ1.out HZ2.out rfl (by decide) rfl (own_keep HO4.out ((Mod.refl Nil W).alloc _) (fun _ _ => id)) rfl (news := tkC (t, a)) rfl (Rd.blk (cs := (tkC (t, a)).toArray) (Blk.new W _ _)) (tkC_one _) (by omega) (by simp only [maxLen]; omega) (by simp; omega) ?_
        intro A' cp' w4 a4 HF hap
        have HAP := Lib.hid hap
        clear hap
        refine sl_move HF rfl rfl (.inr rfl) (by decide) rfl ?_; clear HF; intro _ HF
        refine sl_nil (wp_region_lit ?_)
        refine sl_move HF rfl rfl (.inl rfl) (by decide) rfl ?_; clear HF; intro _ HF
        refine sl_move HF rfl rfl (.inr rfl) (by decide) rfl ?_; clear HF; intro _ HF
        refine wpList_nil ?_
        obtain rfl := HZ.out
        have HF2 := HF.keep [0, 5, 6]
        have hmod : Mod Nil w w4 := (HM4.out.alloc _).trans' (H := Nil) HAP.out.mod (fun _ _ h => h) (fun k hk hv => absurd (HO4.out.lt _ hv).1 (by omega))
        have hst2 : RaSt w l (.slice A' (done ++ [(t, a)]).length cp') (a + k) (done ++ [(t, a)]) w4 := by
          rw [List.length_append, List.length_singleton]
          exact HST.out.tok HC.out HB.out HN.out HT.out HAP.out.own hmod
        dsimp only [Exit.then, Exit.inBlock]
        exact HLOOP.out (a + k) (done ++ [(t, a)]) A' cp' _ _ (by omega) (by rw [List.length_append, List.length_singleton]; exact HF2) hst2
    · have hge : decide ((a : Int) < l.length) = false := by simp; omega
      have HE := Lib.hid (HRO.out _ (HST.out.fin ha))
      refine wp_seq (wp_seq (wp_region_lit ?_))
      refine sl_move HF rfl rfl (.inl rfl) (by decide) rfl ?_; clear HF; intro _ HF
      refine sl_move HF rfl rfl (.inl rfl) (by decide) rfl ?_; clear HF; intro _ HF
      refine sl_op HF rfl rfl (by decide) ?_; intro K hK; have e15 := HF.see 15 rfl; go_wp2_with fail; clear e15 HF; intro _ HF
      refine sl_op HF rfl rfl (by decide) ?_; intro K hK; have e14 := HF.see 14 rfl; have e16 := HF.see 16 rfl; go_wp2_with fail; clear e14 e16 HF; intro _ HF
      refine sl_nil (wp_cond_false (HF.at 17 rfl) (wp_exit ?_))
      dsimp only [Exit.then]
      refine sl_exit (sl_then (wp_seq (wp_region_lit ?_)))
      refine sl_move HF rfl rfl (.inl rfl) (by decide) rfl ?_; clear HF; intro _ HF
      refine sl_move HF rfl rfl (.inl rfl) (by decide) rfl ?_; clear HF; intro _ HF
      refine sl_op HF rfl rfl (by decide) ?_; intro K hK; have e75 := HF.see 75 rfl; go_wp2_with fail; clear e75 HF; intro _ HF
      refine sl_op HF rfl rfl (by decide) ?_; intro K hK; have e76 := HF.see 76 rfl; go_wp2_with fail; clear e76 HF; intro _ HF
      refine sl_op HF rfl rfl (by decide) ?_; intro K hK; have e77 := HF.see 77 rfl; go_wp2_with fail; clear e77 HF; intro _ HF
      refine sl_appendn HF rfl rfl (by decide) rfl Tryz.underlying23 HI.out HZ0.out HZ1.out HZ2.out rfl (by decide) rfl (own_keep HST.out.own ((Mod.refl Nil w2).alloc _) (fun _ _ => id)) rfl (news := tkC (⟨0, [], 0⟩, l.length)) rfl (Rd.blk (cs := (tkC (⟨0, [], 0⟩, l.length)).toArray) (Blk.new w2 _ _)) (tkC_one _) (by omega) (by simp only [maxLen]; omega) (by simp; omega) ?_
      intro A' cp' w4 a4 HF hap
      have HAP := Lib.hid hap
      clear hap
      refine sl_move HF rfl rfl (.inr rfl) (by decide) rfl ?_; clear HF; intro _ HF
      refine sl_const HF rfl rfl (.inr rfl) (by decide) ?_; clear HF; intro _ HF
      refine sl_const HF rfl rfl (.inr rfl) (by decide) ?_; clear HF; intro _ HF
      refine sl_nil (wp_ret ?_)
      have hmod : Mod Nil w w4 := (HST.out.mod.alloc _).trans' (H := Nil) HAP.out.mod (fun _ _ h => h) (fun k hk hv => absurd (HST.out.own.lt _ hv).1 (by omega))
      refine sl_ret3 HF rfl rfl rfl rfl (by
        rw [HE.out]
        refine ⟨⟨_, rfl, ?_⟩, hmod⟩
        rw [tkCells_snoc, List.length_append, List.length_singleton]
        exact HAP.out.own)
end Go.Proofs.YtefloadjolpgbaaGreatDoor

namespace Go.Proofs.YtefloadjolpgbaaGreatDoor
open Go.RowKit

structure PhK (W : World) (vs : Nat → Value) (S : Nat → Bool) (h : Hist) (w : World) : Prop where
  mod : Mod Nil W w
  val : ∀ m, S m = true → h m = vs m
theorem PhK.init {W : World} {vs : Nat → Value} (h : Hist) : PhK W vs (fun _ => false) h W := ⟨Mod.refl _ _, fun _ h => by cases h⟩
theorem PhK.step {W w w' : World} {vs : Nat → Value} {S : Nat → Bool} {h : Hist} (hP : PhK W vs S h w) {m : Nat} {v : Value} (hm : Mod Nil w w') (hv : v = vs m) : PhK W vs (setB S m) (upd h m v) w' := by
  refine ⟨hP.mod.trans hm, fun i hi => ?_⟩
  by_cases he : i = m
  · subst he
    rw [upd_same, hv]
  · rw [setB_ne _ he] at hi
    rw [upd_ne _ _ he]
    exact hP.val i hi
end Go.Proofs.YtefloadjolpgbaaGreatDoor

namespace Go.Proofs.YtefloadjolpgbaaGreatDoor
open Go.RowKit

structure SlD (n : Nat) (ds : List Deferred) (L : List (Tmp × Value)) (a : Act) : Prop where
  size : a.tmps.size = n
  df : a.defers = ds
  sees : ∀ t v, look L t = some v → a.eval (.tmp t) = v
theorem Sl.withD {n : Nat} {L : List (Tmp × Value)} {a : Act} (h : Sl n L a) (ds : List Deferred) : SlD n ds L { a with defers := ds } := ⟨h.size, rfl, fun t v e => h.sees t v e⟩

section
variable {P : Program} {n : Nat} {ds : List Deferred} {L : List (Tmp × Value)} {a : Act} {ops : Array Oper} {Q : Exit → Act → World → Prop} {w : World} {rest : List Oper} {o : Oper} {d : Tmp}
theorem SlD.at (h : SlD n ds L a) (t : Tmp) {v : Value} (e : look L t = some v) : a.eval (.tmp t) = v := h.sees t v e
theorem SlD.see (h : SlD n ds L a) (t : Tmp) {v : Value} (e : look L t = some v) : (a.tmps[t]?).getD undef = v := by
  rw [← Act.eval_tmp]
  exact h.at t e
theorem SlD.put (h : SlD n ds L a) {d : Tmp} (hd : d < n) (v : Value) : SlD n ds ((d, v) :: L) (a.put (some d) v) := by
  refine ⟨by rw [Act.size_put, h.size], h.df, fun t u e => ?_⟩
  by_cases hdt : d = t
  · subst hdt
    rw [look_cons_same] at e
    injection e with e
    rw [Act.eval_put_same _ (by rw [h.size]; exact hd), e]
  · rw [look_cons_ne _ _ hdt] at e
    rw [Act.eval_put_ne _ hdt, h.sees t u e]
theorem SlD.keep (h : SlD n ds L a) (ts : List Tmp) : SlD n ds (pick L ts) a := ⟨h.size, h.df, fun t v e => h.sees t v (look_pick ts e)⟩
theorem slD_op (h : SlD n ds L a) (hg : o.guard = none) (hd : o.dst = some d) (hn : d < n)
    (hop : ∀ K : Act → World → Prop, (∀ v w', (∀ a', SlD n ds ((d, v) :: L) a' → wpList P ops Q rest a' w') → K (a.put (some d) v) w') → o.wp P a w K Q) : wpList P ops Q (o :: rest) a w :=
  wpList_plain hg fun K hK => hop K fun v _ hk => hK _ _ (hk _ (h.put hn v))
theorem slD_op0 (h : SlD n ds L a) (hg : o.guard = none) (hd : o.dst = none)
    (hop : ∀ K : Act → World → Prop, (∀ w', (∀ a', SlD n ds L a' → wpList P ops Q rest a' w') → K a w') → o.wp P a w K Q) : wpList P ops Q (o :: rest) a w :=
  wpList_plain hg fun K hK => hop K fun _ hk => hK _ _ (hk _ h)
theorem slD_move {t : Tmp} {v : Value} (h : SlD n ds L a) (hg : o.guard = none) (hd : o.dst = some d) (ho : o.op = .move (.tmp t) ∨ o.op = .assign (.tmp t)) (hn : d < n) (hv : look L t = some v)
    (hk : ∀ a', SlD n ds ((d, v) :: L) a' → wpList P ops Q rest a' w) : wpList P ops Q (o :: rest) a w := by
  refine wpList_plain hg fun K hK => ?_
  have : K (a.put o.dst (a.eval (.tmp t))) w := by
    rw [h.sees t v hv, hd]
    exact hK _ _ (hk _ (h.put hn v))
  rcases ho with ho | ho
  · exact BigFrame.wp_move _ ho this
  · exact BigFrame.wp_assign _ ho this
end
end Go.Proofs.YtefloadjolpgbaaGreatDoor
