/- Contracts of octet.Writer: Num, Int, Text, Texts, Bytes, Err. -/
import Derived.Test.YtjmehamkpmimkaaOctW
import Derived.Test.YtjmehamkpmimkaaCrcW
import Derived.Lib.AppendStr
namespace Go.Proofs.Ytjmehamkpmimkaa
open Go.RowKit

/-- What a writer has written, and its error. -/
abbrev WSt := List UInt8 × Int
def wPut (size x : Nat) (s : WSt) : WSt := if s.2 = 0 then (s.1 ++ beBytes size x, 0) else s
def wNum (n : Int) (s : WSt) : WSt := if n < 0 ∨ 2147483647 < n then (s.1, 2) else wPut 4 n.toNat s
/-- An int's 64 bits. -/
def bits64 (n : Int) : Nat := (n % 18446744073709551616).toNat
def wInt (n : Int) (s : WSt) : WSt := wPut 8 (bits64 n) s
def wText (t : List UInt8) (s : WSt) : WSt := if (wNum t.length s).2 = 0 then ((wNum t.length s).1 ++ t, 0) else wNum t.length s
def wTexts (l : List (List UInt8)) (s : WSt) : WSt := l.foldl (fun s t => wText t s) (wNum l.length s)

theorem bits64_lt (n : Int) : bits64 n < 18446744073709551616 := by unfold bits64; omega

def WrAt (B : Nat) (w : World) (g : Nat) (v : Value) (s : WSt) : Prop := WriterAt B w g v s.1 s.2

/-- What a call on a writer leaves. -/
def WrPost (B g : Nat) (w : World) (v : Value) (s : WSt) (r : Ending) (w' : World) : Prop := WrLeft B g w v s.1 s.2 r w'

theorem WrAt.keep {F : Nat → Prop} {B : Nat} {w w' : World} {g : Nat} {v : Value} {s : WSt} (h : WrAt B w g v s) (hm : Mod F w w') (hF : ∀ b, Foot g v b → ¬ F b) : WrAt B w' g v s := WriterAt.keep h hm hF

theorem put_any (B g : Nat) (v : Value) (s : WSt) (x size : Nat) (w : World) (h : WrAt B w g v s) (hx : x < 18446744073709551616) (hs : size ≤ 8) (hB : B ≤ w.heap.size) (hbig : s.1.length + size ≤ 1000000000) :
    Calls Try.prog 102 #[.pointer (some ⟨g, 0, none⟩), .int .u64 (x : Int), .int .i64 (size : Int)] w (WrPost B g w v (wPut size x s)) := by
  by_cases h0 : s.2 = 0
  · obtain ⟨l, e⟩ := s
    obtain rfl : e = 0 := h0
    have : wPut size x (l, 0) = (l ++ beBytes size x, 0) := by simp [wPut]
    rw [this]
    exact put_ok B g v l x size w h hx hs hB hbig
  · refine (put_bad B g v s.1 s.2 x size w h h0 hs).mono ?_
    rintro r w' ⟨rfl, rfl⟩
    have : wPut size x s = s := by unfold wPut; rw [if_neg h0]
    rw [this]
    exact ⟨rfl, v, h, Mod.refl _ _, fun _ h => .inl h⟩

set_option maxHeartbeats 1600000 in
set_option maxRecDepth 100000 in
theorem wnum_any (B g : Nat) (v : Value) (s : WSt) (n : Int) (w : World) (h : WrAt B w g v s) (hB : B ≤ w.heap.size) (hbig : s.1.length + 4 ≤ 1000000000) :
    Calls Try.prog 87 #[.pointer (some ⟨g, 0, none⟩), .int .i64 n] w (WrPost B g w v (wNum n s)) := by
  by_cases hn : n < 0 ∨ 2147483647 < n
  · have hw : wNum n s = (s.1, 2) := by unfold wNum; rw [if_pos hn]
    rw [hw]
    obtain ⟨h1, h2, h3⟩ := h
    have hc1 := h1.cell 1
    have hf1 := h1.frozen 1
    have hset := h1.set_ 1 (.int .i64 2)
    have hne : ¬ v.ownBlock = some g := own_blk_ne h2 h1 (by decide)
    have hw' : WrAt B (w.setCell ⟨g, 1, none⟩ (.int .i64 2)) g v (s.1, 2) :=
      ⟨by simpa using hset, own_keep h2 ((Mod.refl (fun k => k = g) w).set (p := ⟨g, 1, none⟩) (.inl rfl) _) (fun k hk hkg => hne (by rw [hk, hkg])), h3⟩
    have HW' := Lib.hid hw'
    clear h1 h2 hset hne hw hw'
    have hcall : Calls Try.prog 102 #[.pointer (some ⟨g, 0, none⟩), .int .u64 ((bits64 n : Nat) : Int), .int .i64 4] (w.setCell ⟨g, 1, none⟩ (.int .i64 2)) (WrPost B g (w.setCell ⟨g, 1, none⟩ (.int .i64 2)) v (s.1, 2)) :=
      put_any B g v (s.1, 2) (bits64 n) 4 _ HW'.out (bits64_lt n) (by omega) (by simpa [World.setCell] using hB) hbig
    have HC := Lib.hid hcall
    clear hcall
    have hconv : IntKind.u64.wrap n = ((bits64 n : Nat) : Int) := by
      simp only [IntKind.wrap, IntKind.bits, IntKind.signed, bits64]
      simp
      omega
    rcases hn with hn | hn
    · have hn' : ¬ 2147483647 < n := by omega
      go_enter Try.func87, Try.ntmps87
      go_wp2_with fail
      refine HC.out.mono ?_
      rintro r w' ⟨rfl, v', hw2, hm2, hat2⟩
      have HW2 := Lib.hid hw2
      have HM2 := Lib.hid hm2
      have HAT2 := Lib.hid hat2
      clear hw2 hm2 hat2
      go_wp2_with fail
      go_end0
      exact ⟨rfl, v', HW2.out, ((Mod.refl (Foot g v) w).set (p := ⟨g, 1, none⟩) (.inl (.inl rfl)) _).trans HM2.out, by simpa [World.setCell] using HAT2.out⟩
    · have hn' : ¬ n < 0 := by omega
      go_enter Try.func87, Try.ntmps87
      go_wp2_with fail
      refine HC.out.mono ?_
      rintro r w' ⟨rfl, v', hw2, hm2, hat2⟩
      have HW2 := Lib.hid hw2
      have HM2 := Lib.hid hm2
      have HAT2 := Lib.hid hat2
      clear hw2 hm2 hat2
      go_wp2_with fail
      go_end0
      exact ⟨rfl, v', HW2.out, ((Mod.refl (Foot g v) w).set (p := ⟨g, 1, none⟩) (.inl (.inl rfl)) _).trans HM2.out, by simpa [World.setCell] using HAT2.out⟩
  · obtain ⟨k, rfl⟩ := Int.eq_ofNat_of_zero_le (show 0 ≤ n by omega)
    have hw : wNum (k : Int) s = wPut 4 k s := by unfold wNum; rw [if_neg hn]; rfl
    rw [hw]
    have hk : k ≤ 2147483647 := by omega
    have HC := Lib.hid (put_any B g v s k 4 w h (by omega) (by omega) hB hbig)
    clear hn hw h
    go_enter Try.func87, Try.ntmps87
    go_wp2_with fail
    refine HC.out.mono ?_
    rintro r w' ⟨rfl, v', hw2, hm2, hat2⟩
    have HW2 := Lib.hid hw2
    have HM2 := Lib.hid hm2
    have HAT2 := Lib.hid hat2
    clear hw2 hm2 hat2
    go_wp2_with fail
    go_end0
    exact ⟨rfl, v', HW2.out, HM2.out, HAT2.out⟩

theorem wbytes_any (B g : Nat) (v : Value) (s : WSt) (w : World) (h : WrAt B w g v s) (hbig : s.1.length ≤ 1000000000) :
    Calls Try.prog 88 #[.pointer (some ⟨g, 0, none⟩)] w fun r w' => ∃ v, r = .returned v ∧ w'.ownsRow w.heap.size 5 1 v s.1.length (s.1.map bv) ∧ Mod Nil w w' := by
  obtain ⟨h1, h2, h3⟩ := h
  have hc0 := h1.cell 0
  obtain ⟨A, c, rfl, _, _⟩ := own_slice h2
  have HR := Lib.hid (Rd.of_own h2)
  clear h1 h2
  go_enter Try.func88, Try.ntmps88
  go_wp2_with fail
  refine (clone_any _ A _ c s.1 _ rfl (by omega) HR.out).mono ?_
  rintro r w' ⟨v', rfl, ho, hm⟩
  have HO := Lib.hid ho
  have HM := Lib.hid hm
  clear ho hm
  go_wp2_with fail
  go_ret
  exact ⟨v', rfl, HO.out, HM.out⟩

/-- append(b, s...), s a string, and where the new slice lies. -/
theorem run_append_string {P : Program} (w : World) (base : Nat) (t u ty e : TypeId) (i : TypeInfo) (ht : P.underlying t = some (.slice e)) (hu : P.underlying u = some .string) (hi : P.info? e = some i) (hz : i.zero = some (.int .u8 0))
    (hsize : i.size = 1) (hby : i.bytes = 1)
    (v : Value) (n : Nat) (xs : List Value) (hown : w.ownsRow base e 1 v n xs) (s : ByteArray)
    (h63 : n + s.size ≤ maxLen) (hbytes : n + s.size ≤ 140737488355328) (hbase : base ≤ w.heap.size) :
    ∃ A' c' w', (Builtin.append_ #[t, u] ty #[v, .string s]).run P w = .ok (.slice A' (n + s.size) c') w' ∧ w'.ownsRow base e 1 (.slice A' (n + s.size) c') (n + s.size) (xs ++ Lib.strCells s) ∧ Mod (fun k => v.ownBlock = some k) w w' ∧
      (∀ k, (Value.slice A' (n + s.size) c').ownBlock = some k → v.ownBlock = some k ∨ w.heap.size ≤ k) := by
  -- the old slice's own block is the base that tells
  obtain ⟨v', w', hr, h2, h3, h4⟩ := Lib.run_append_own_string (P := P) w base t u ty e i ht hu hi hz hsize hby v n xs hown s h63 hbytes hbase
  obtain ⟨A', c', rfl, _, _⟩ := own_slice h2
  refine ⟨A', c', w', hr, h2, Mod.of_grown h3, fun k hk => ?_⟩
  rcases hown.2 with ⟨rfl, hn0⟩ | ⟨g, cap, cur, rfl, hbg, hg, hnc, hcm, hcs, htake⟩
  · -- nil: all is new, by the same law at a higher base
    obtain ⟨v2, w2, hr2, h22, _, _⟩ := Lib.run_append_own_string (P := P) w w.heap.size t u ty e i ht hu hi hz hsize hby (.slice none 0 0) n xs ⟨hown.1, .inl ⟨rfl, hn0⟩⟩ s h63 hbytes (Nat.le_refl _)
    rw [hr] at hr2
    injection hr2 with e1 e2
    subst e1 e2
    exact .inr (h22.lt k hk).1
  · by_cases hroom : n + s.size ≤ cap
    · have hcs' : cur.size = cap := by simpa using hcs
      have hr2 := Lib.run_append_room_string (P := P) w t u ty e i ht hu hi hsize g n cap cur hg s hroom (by omega)
      rw [hr] at hr2
      injection hr2 with e1 e2
      injection e1 with e3 e4 e5
      subst e3
      exact .inl (by simpa [Value.ownBlock] using hk)
    · have holds : ∀ j u, xs[j]? = some u → w.cell? ((⟨g, 0, none⟩ : Addr).add j) = some u := hown.cells (g := g) rfl
      have hxl : xs.length = n := by simpa using hown.1
      have hr2 := Lib.run_append_grow_string (P := P) w t u ty e i (.int .u8 0) ht hu hi hz ⟨g, 0, none⟩ n cap xs (by rw [hsize]; simpa using hxl) holds s (by omega) (by simp only [maxLen] at h63; omega) (by rw [hby]; exact growslice_fits (by omega) (by omega))
      rw [hr] at hr2
      injection hr2 with e1 e2
      injection e1 with e3 e4 e5
      subst e3
      have : k = w.heap.size := by simpa [Value.ownBlock, eq_comm] using hk
      exact .inr (by omega)

/-- append(b, s...), s a string. -/
theorem wpList_append_string {P : Program} {w : World} {ops : Array Oper} {rest : List Oper} {o : Oper} {a : Act} {Q : Exit → Act → World → Prop} (hgd : o.guard = none) (sl x : Operand) (t u : TypeId)
    (ho : o.op = .call { callee := .builtin .append, args := #[sl, x], argTypes := #[t, u] })
    (base : Nat) (e : TypeId) (i : TypeInfo) (ht : P.underlying t = some (.slice e)) (hu : P.underlying u = some .string) (hi : P.info? e = some i) (hz : i.zero = some (.int .u8 0))
    (hsize : i.size = 1) (hby : i.bytes = 1)
    (v : Value) (n : Nat) (xs : List Value) (hs : a.eval sl = v) (hown : w.ownsRow base e 1 v n xs) (s : ByteArray) (hx : a.eval x = .string s)
    (h63 : n + s.size ≤ maxLen) (hbytes : n + s.size ≤ 140737488355328) (hbase : base ≤ w.heap.size)
    (h : ∀ A' c' w', w'.ownsRow base e 1 (.slice A' (n + s.size) c') (n + s.size) (xs ++ Lib.strCells s) → Mod (fun k => v.ownBlock = some k) w w' → (∀ k, (Value.slice A' (n + s.size) c').ownBlock = some k → v.ownBlock = some k ∨ w.heap.size ≤ k) → wpList P ops Q rest (a.put o.dst (.slice A' (n + s.size) c')) w') : wpList P ops Q (o :: rest) a w := by
  refine wpList_plain hgd fun K hK => ?_
  obtain ⟨A', c', w', hr, h2, h3, h4⟩ := run_append_string (P := P) w base t u o.type e i ht hu hi hz hsize hby v n xs hown s h63 hbytes hbase
  unfold Oper.wp execOp
  simp only [ho, resolve, invoke, builtin, Sem.run_bind, Sem.run_pure, Result.andThen_ok, List.map_toArray, List.map_cons, List.map_nil, hs, hx, hr]
  exact hK _ _ (h A' c' w' h2 h3 h4)

end Go.Proofs.Ytjmehamkpmimkaa
