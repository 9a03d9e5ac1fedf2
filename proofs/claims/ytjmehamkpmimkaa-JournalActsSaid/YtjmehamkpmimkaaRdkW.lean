/- The document's disk in memory; contracts of its small calls. -/
import Derived.Test.YtjmehamkpmimkaaDskAw
import Derived.BigQuiet
namespace Go.Proofs.Ytjmehamkpmimkaa
open Go.RowKit

theorem str_extract (S : List UInt8) (a b : Nat) : (str S).extract a b = str ((S.drop a).take (b - a)) := by
  apply ByteArray.ext
  apply Array.toList_inj.1
  rw [Lib.extract_data]
  simp [str]

theorem str_add (a b : List UInt8) : str a ++ str b = str (a ++ b) := str_append a b

set_option maxHeartbeats 1600000 in
set_option maxRecDepth 100000 in
theorem refLay_any (S b : List UInt8) (off : Nat) (w : World) (h : off + b.length ≤ S.length) (hS : S.length ≤ 1000000000) :
    Calls Try.prog 67 #[.string (str S), .int .i64 off, .string (str b)] w fun r w' => r = .returned (.string (str (splice S off b))) ∧ ∃ k, w' = w.drewN k := by
  have hs := str_size S
  have hb := str_size b
  have e1 : (str S).extract 0 off = str (S.take off) := by rw [str_extract]; simp
  have e2 : (str S).extract (off + b.length) S.length = str (S.drop (off + b.length)) := by rw [str_extract, List.take_of_length_le (by simp)]
  have h1 : (str (S.take off)).size = off := by rw [str_size, List.length_take]; omega
  have h2 : (str (S.drop (off + b.length))).size = S.length - (off + b.length) := by rw [str_size, List.length_drop]
  have h3 : (str (S.take off) ++ str b).size = off + b.length := by rw [str_add, str_size, List.length_append, List.length_take]; omega
  have HF := Lib.hid (show str (S.take off) ++ str b ++ str (S.drop (off + b.length)) = str (splice S off b) by rw [str_add, str_add, List.append_assoc]; rfl)
  go_enter Try.func67, Try.ntmps67
  go_wp2_with (go_quiet (fail))
  go_ret
  exact ⟨congrArg (fun x => Ending.returned (.string x)) HF.out, _, rfl⟩

def rwCells (x : Nat × List UInt8) : List Value := [.int .i64 x.1, .string (str x.2)]

structure RdkIs (B : Nat) (w : World) (g : Nat) (vw : Value) (s : DSt) : Prop where
  blk : Blk w g 81 #[.string (str s.S), vw, .int .i64 s.left]
  low : B ≤ g
  waits : w.ownsRow B 106 2 vw s.ws.length (s.ws.flatMap rwCells)
  fit : ∀ x ∈ s.ws, 64 * x.1 + x.2.length ≤ s.S.length ∧ x.2.length = 64
  big : s.S.length ≤ 4194304

def RF (g : Nat) (vw : Value) (k : Nat) : Prop := k = g ∨ vw.ownBlock = some k

/-- The document's disk at g, in the blocks F. -/
def RdkAt (B : Nat) (w : World) (g : Nat) (F : Nat → Prop) (s : DSt) : Prop := ∃ vw, F = RF g vw ∧ RdkIs B w g vw s

section
variable {B g : Nat} {w w' : World} {vw : Value} {s : DSt}
theorem RdkIs.ne (h : RdkIs B w g vw s) : vw.ownBlock ≠ some g := own_blk_ne h.waits h.blk (by decide)
theorem RdkIs.keep {G : Nat → Prop} (h : RdkIs B w g vw s) (hm : Mod G w w') (hF : ∀ k, RF g vw k → ¬ G k) : RdkIs B w' g vw s :=
  ⟨h.blk.keep hm (hF g (.inl rfl)), h.low, own_keep h.waits hm (fun k hk => hF k (.inr hk)), h.fit, h.big⟩
theorem RdkIs.lt (h : RdkIs B w g vw s) : ∀ k, RF g vw k → B ≤ k ∧ k < w.heap.size := by
  rintro k (rfl | hk)
  · exact ⟨h.low, h.blk.lt⟩
  · exact h.waits.lt k hk
theorem RdkAt.keep {F G : Nat → Prop} (h : RdkAt B w g F s) (hm : Mod G w w') (hF : ∀ k, F k → ¬ G k) : RdkAt B w' g F s := by
  obtain ⟨vw, rfl, h⟩ := h
  exact ⟨vw, rfl, h.keep hm hF⟩
theorem RdkAt.keep0 {F : Nat → Prop} (h : RdkAt B w g F s) (hm : Mod Nil w w') : RdkAt B w' g F s := h.keep hm (fun _ _ => id)
theorem RdkAt.lt {F : Nat → Prop} (h : RdkAt B w g F s) : ∀ k, F k → B ≤ k ∧ k < w.heap.size := by
  obtain ⟨vw, rfl, h⟩ := h
  exact h.lt
end

/-- What a call on the document's disk leaves. -/
def RdkPost (B : Nat) (w : World) (g : Nat) (F : Nat → Prop) (s : DSt) (e : Ending) (r : Ending) (w' : World) : Prop :=
  r = e ∧ ∃ F', RdkAt B w' g F' s ∧ Mod F w w' ∧ ∀ k, F' k → F k ∨ w.heap.size ≤ k

theorem RdkIs.post {B : Nat} {w w' : World} {g : Nat} {vw : Value} {s : DSt} (h : RdkIs B w' g vw s) {e : Ending} (hm : Mod (RF g vw) w w') : RdkPost B w g (RF g vw) s e e w' :=
  ⟨rfl, _, ⟨vw, rfl, h⟩, hm, fun _ h => .inl h⟩
theorem RdkIs.left_ {B : Nat} {w : World} {g : Nat} {vw : Value} {s : DSt} (h : RdkIs B w g vw s) (n : Int) : RdkIs B (w.setCell ⟨g, 2, none⟩ (.int .i64 n)) g vw { s with left := n } :=
  ⟨by simpa using h.blk.set_ 2 (.int .i64 n), h.low, own_keep h.waits ((Mod.refl (fun k => k = g) w).set (p := ⟨g, 2, none⟩) (.inl rfl) _) (fun k hk hkg => h.ne (hkg ▸ hk)), h.fit, h.big⟩

theorem rdkThere_any (B g : Nat) (F : Nat → Prop) (s : DSt) (n : Int) (w : World) (h : RdkAt B w g F s) :
    Calls Try.prog 71 #[.pointer (some ⟨g, 0, none⟩), .int .i64 n] w fun r w' => r = .returned (.bool (s.there n)) ∧ w = w' := by
  obtain ⟨vw, rfl, h⟩ := h
  have hc0 := h.blk.cell 0
  have hs := str_size s.S
  have hb := h.big
  clear h
  unfold DSt.there
  by_cases h0 : 0 ≤ n
  · go_enter Try.func71, Try.ntmps71
    go_wp2_with fail
    go_ret
    exact ⟨ret_bool (by simp [h0]), rfl⟩
  · go_enter Try.func71, Try.ntmps71
    go_wp2_with fail
    go_ret
    exact ⟨ret_bool (by simp; omega), rfl⟩

theorem rdkOn_any (B g : Nat) (F : Nat → Prop) (s : DSt) (w : World) (h : RdkAt B w g F s) (hl : s.left ≤ 9223372036854775807) :
    Calls Try.prog 72 #[.pointer (some ⟨g, 0, none⟩)] w (RdkPost B w g F s.spend (.returned (.bool s.on))) := by
  obtain ⟨vw, rfl, h⟩ := h
  have hc2 := h.blk.cell 2
  have hf2 := h.blk.frozen 2
  have hgl := h.blk.lt
  have H := Lib.hid h
  clear h
  by_cases h0 : 0 < s.left
  · have HE := Lib.hid (show s.spend = { s with left := s.left - 1 } by simp [DSt.spend, h0])
    have e2 : s.on = true := by simp [DSt.on]; omega
    have e3 : (s.left == 0) = false := by simp; omega
    rw [e2]
    clear e2
    go_enter Try.func72, Try.ntmps72
    go_wp2_with fail
    go_ret
    rw [HE.out]
    exact (H.out.left_ _).post ((Mod.refl _ _).set (.inl (.inl rfl)) _)
  · have HE := Lib.hid (show s.spend = s by simp [DSt.spend, h0])
    by_cases h1 : s.left = 0
    · have HO := Lib.hid (show s.on = false by simp [DSt.on, h1])
      rw [h1] at hc2
      clear h1
      go_enter Try.func72, Try.ntmps72
      go_wp2_with fail
      go_ret
      rw [HE.out, HO.out]
      exact H.out.post (Mod.refl _ _)
    · have HO := Lib.hid (show s.on = true by simp [DSt.on, h1])
      have e3 : (s.left == 0) = false := by simp [h1]
      go_enter Try.func72, Try.ntmps72
      go_wp2_with fail
      go_ret
      rw [HE.out, HO.out]
      exact H.out.post (Mod.refl _ _)

theorem rdkPower_any (B g : Nat) (F : Nat → Prop) (s : DSt) (n : Int) (w : World) (h : RdkAt B w g F s) :
    Calls Try.prog 21 #[.pointer (some ⟨g, 0, none⟩), .int .i64 n] w (RdkPost B w g F { s with left := max n (-1) } (.returned (.tuple #[]))) := by
  obtain ⟨vw, rfl, h⟩ := h
  have hf2 := h.blk.frozen 2
  have hc2 := h.blk.cell 2
  have hgl := h.blk.lt
  have H := Lib.hid h
  clear h
  obtain ⟨m, hm⟩ : ∃ m, m = max n (-1) := ⟨_, rfl⟩
  rw [← hm]
  by_cases h0 : n < 0
  · obtain rfl : m = -1 := by omega
    clear hm
    go_enter Try.func21, Try.ntmps21
    go_wp2_with fail
    go_end0
    exact ((H.out.left_ n).left_ (-1)).post (((Mod.refl _ _).set (.inl (.inl rfl)) _).set (.inl (.inl rfl)) _)
  · obtain rfl : m = n := by omega
    clear hm
    go_enter Try.func21, Try.ntmps21
    go_wp2_with fail
    go_end0
    exact (H.out.left_ _).post ((Mod.refl _ _).set (.inl (.inl rfl)) _)

set_option maxHeartbeats 1600000 in
set_option maxRecDepth 100000 in
theorem rdkNew_any (n : Nat) (w : World) (hn : n ≤ 65536) :
    Calls Try.prog 15 #[.int .i64 n] w fun r w' => ∃ g F, r = .returned (.pointer (some ⟨g, 0, none⟩)) ∧ RdkAt w.heap.size w' g F ⟨List.replicate (64 * n) 0, [], -1⟩ ∧ Mod Nil w w' := by
  have hw64 : IntKind.i64.wrap (64 * (n : Int)) = ((64 * n : Nat) : Int) := by rw [IntWalk.i64_in _ (by omega)]; omega
  obtain ⟨Z, hZ⟩ : ∃ Z, Z = List.replicate (64 * n) (0 : UInt8) := ⟨_, rfl⟩
  have hZl : Z.length = 64 * n := by rw [hZ]; simp
  have HC := Lib.hid (noughts_any (64 * n) w (by omega))
  rw [← hZ] at HC ⊢
  have HZL := Lib.hid hZl
  clear hZ hZl
  go_enter Try.func15, Try.ntmps15
  go_wp2_with fail
  refine HC.out.mono ?_
  rintro r w1 ⟨rfl, hm1⟩
  have HM := Lib.hid hm1
  clear hm1
  go_wp2_with fail
  go_ret
  exact ⟨_, _, rfl, ⟨.slice none 0 0, rfl, Blk.new _ _ _, HM.out.size, World.ownsRow_nil _ _ _ _, fun x hx => (by cases hx), by show Z.length ≤ _; have := HZL.out; omega⟩, HM.out.alloc _⟩

/-- append of elements of any number of cells. -/
theorem wpList_append_k {P : Program} (w : World) {ops : Array Oper} {rest : List Oper} {o : Oper} {a : Act} {Q : Exit → Act → World → Prop} (hgd : o.guard = none) (s x : Operand) (t : TypeId)
    (ho : o.op = .call { callee := .builtin .append, args := #[s, x], argTypes := #[t, t] })
    (base : Nat) (e : TypeId) (i : TypeInfo) (z : Value) (size bytes : Nat) (ht : P.underlying t = some (.slice e)) (hi : P.info? e = some i) (hz : i.zero = some z)
    (hsize : i.size = size) (hby : i.bytes = bytes) (hzs : z.cells.size = size) (hsz : 0 < size)
    (v : Value) (n : Nat) (xs : List Value) (hs : a.eval s = v) (hown : w.ownsRow base e size v n xs)
    (A : Option Addr) (m c : Nat) (news : List Value) (hx : a.eval x = .slice A m c) (hl : news.length = m * size) (hr : 0 < m → ∃ ad, A = some ad ∧ ∀ j u, news[j]? = some u → w.cell? (ad.add j) = some u) (h1 : ∀ u ∈ news, u.oneCell' = true)
    (hbytes : (n + m) * bytes ≤ 140737488355328) (h63 : n + m ≤ maxLen) (hbase : base ≤ w.heap.size)
    (h : ∀ A' c' w', w'.ownsRow base e size (.slice A' (n + m) c') (n + m) (xs ++ news) → Mod (fun k => v.ownBlock = some k) w w' → (∀ k, (Value.slice A' (n + m) c').ownBlock = some k → v.ownBlock = some k ∨ w.heap.size ≤ k) → wpList P ops Q rest (a.put o.dst (.slice A' (n + m) c')) w') : wpList P ops Q (o :: rest) a w := by
  refine wpList_plain hgd fun K hK => ?_
  rcases A with _ | ad
  · have hm : m = 0 := by
      rcases Nat.eq_zero_or_pos m with h0 | h0
      · exact h0
      · obtain ⟨_, h, _⟩ := hr h0
        cases h
    subst hm
    have hn : news = [] := List.eq_nil_of_length_eq_zero (by omega)
    subst hn
    have hrun := run_append_of_nil (P := P) w base t o.type e i size ht hi v n xs hown c
    obtain ⟨A', c', rfl, _, _⟩ := own_slice hown
    unfold Oper.wp execOp
    simp only [ho, resolve, invoke, builtin, Sem.run_bind, Sem.run_pure, Result.andThen_ok, List.map_toArray, List.map_cons, List.map_nil, hs, hx, hrun]
    exact hK _ _ (h A' c' w (by simpa using hown) (Mod.refl _ _) (fun k hk => .inl (by simpa using hk)))
  · have hcell : ∀ j u, news[j]? = some u → w.cell? (ad.add j) = some u := by
      intro j u hu
      have hlt := (List.getElem?_eq_some_iff.1 hu).1
      have hm : 0 < m := by
        rcases Nat.eq_zero_or_pos m with h0 | h0
        · subst h0; omega
        · exact h0
      obtain ⟨ad', h0, hc⟩ := hr hm
      injection h0 with h0
      subst h0
      exact hc j u hu
    obtain ⟨v', w', hrun, h2, h3, _, h5⟩ := run_append_own_at (P := P) w base t o.type e i z size bytes ht hi hz hsize hby hzs hsz v n xs hown ad m c news hl hcell h1 h63 hbytes hbase
    obtain ⟨A', c', rfl, _, _⟩ := own_slice h2
    unfold Oper.wp execOp
    simp only [ho, resolve, invoke, builtin, Sem.run_bind, Sem.run_pure, Result.andThen_ok, List.map_toArray, List.map_cons, List.map_nil, hs, hx, hrun]
    refine hK _ _ (h A' c' w' h2 (Mod.of_grown h3) (fun k hk => ?_))
    rcases h5 with h5 | h5
    · exact .inl (h5 ▸ hk)
    · rw [h5] at hk
      injection hk with hk
      exact .inr (by omega)

end Go.Proofs.Ytjmehamkpmimkaa
