/- Words of a stack; words that are alike; the document's scopes and activations. -/
import Derived.Test.YtpjpmlhnhcmacaaFrdE
namespace Go.Proofs.Ytpjpmlhnhcmacaa
open Go.RowKit

set_option maxHeartbeats 3200000 in
set_option maxRecDepth 100000 in
theorem words_any (g : Nat) (bs : List (Nat × Nat)) (ss : List Scp) (fs : List Frm) (w : World) (h : WSt w.heap.size w g bs ss fs) :
    Calls Try.prog 19 #[.pointer (some ⟨g, 0, none⟩)] w fun r w' => ∃ A c, r = .returned (.slice A (frW ss fs []).1.length c) ∧ w'.ownsRow w.heap.size 34 1 (.slice A (frW ss fs []).1.length c) (frW ss fs []).1.length ((frW ss fs []).1.map wv) ∧ Mod Nil w w' := by
  have hmf : ∀ (fn : Fn) (first cap : Array Value) (w : World), (Instr.makeFunc fn first cap).run Try.prog w = .ok (.func fn first cap) w := fun _ _ _ _ => rfl
  have hm1 : Mod Nil w (w.alloc (.cells #[.slice none 0 0] 35)) := (Mod.refl Nil w).alloc _
  have H := Lib.hid (h.keep (Nat.le_refl _) (hm1.mono (fun _ _ h => h.elim)))
  have HO := Lib.hid (show OutIs w.heap.size (w.alloc (.cells #[.slice none 0 0] 35)) w.heap.size (.slice none 0 0) [] from ⟨Blk.new _ _ _, World.ownsRow_nil _ _ _ _, Nat.le_refl _⟩)
  have HC := Lib.hid (each_any w.heap.size g w.heap.size (.slice none 0 0) bs ss fs _ H.out HO.out hm1.size)
  unfold wordFn at HC
  obtain ⟨xs, hxs⟩ : ∃ xs, xs = (frW ss fs []).1 := ⟨_, rfl⟩
  rw [← hxs] at HC ⊢
  have HM1 := Lib.hid hm1
  clear h hm1 hxs
  go_enter Try.func19, Try.ntmps19
  go_wp2_with fail
  refine HC.out.mono ?_
  rintro r w2 ⟨rfl, ⟨v', ho⟩, hm2⟩
  obtain ⟨A, c, rfl, _, _⟩ := own_slice ho.own
  have hc0 := ho.blk.cell 0
  have HO2 := Lib.hid ho.own
  have HM2 := Lib.hid (HM1.out.trans' hm2 (H := Nil) (fun _ _ h => h) (fun k hk h => by omega))
  clear ho hm2
  go_wp2_with fail
  go_ret
  exact ⟨A, c, rfl, HO2.out, HM2.out⟩

set_option maxHeartbeats 1600000 in
set_option maxRecDepth 100000 in
theorem sameWords_any (A B : Option Addr) (n c d : Nat) (l : List Int) (w : World) (hn : l.length = n) (hr : Rd All w A (l.map wv)) (hr' : Rd All w B (l.map wv)) (hbig : n ≤ 1000000) :
    Calls Try.prog 18 #[.slice A n c, .slice B n d] w fun r w' => r = .returned (.bool true) ∧ Mod Nil w w' := by
  have HR := Lib.hid hr
  have HR' := Lib.hid hr'
  clear hr hr'
  go_enter Try.func18, Try.ntmps18
  go_wp2_with fail
  go_loopw [5] (fun iv wr => ∃ k : Nat, k ≤ n ∧ iv = .int .i64 k ∧ Mod Nil w wr) (fun v _ => n - (intOf v).toNat)
  case atStart => exact ⟨0, Nat.zero_le _, rfl, Mod.refl _ _⟩
  case round =>
    obtain ⟨k, hk, rfl, hm⟩ := hrel
    have HM := Lib.hid hm
    by_cases hlt : k < n
    · obtain ⟨x, hx⟩ : ∃ x, l[k]? = some x := ⟨_, List.getElem?_eq_getElem (by omega)⟩
      have hcx : (l.map wv)[k]? = some (.int .u64 x) := by rw [List.getElem?_map, hx]; rfl
      obtain ⟨a1, rfl, _, _, h1⟩ := (HR.out.keep0 hm).at_ hcx
      obtain ⟨a2, rfl, _, _, h2⟩ := (HR'.out.keep0 hm).at_ hcx
      clear hm hx hcx hn
      go_wp2_with (go_quiet (fail))
      go_roundw
      case rel => exact ⟨k + 1, by omega, by go_num, HM.out.drewN _⟩
      case measure => simp [intOf] <;> omega
    · clear hm
      go_wp2_with fail
      go_ret
      exact ⟨rfl, HM.out⟩

/-! ### the document's world -/
def upI : Option Nat → Int
  | none => -1
  | some j => j
def rscCells (p : Scp × Nat) : List Value := [.slice (some ⟨p.2, 0, none⟩) p.1.vars.length p.1.vars.length, .int .i64 (upI p.1.up)]
structure RAct where
  a : Frm
  A : Option Addr
  c : Nat
def actCells (p : RAct) : List Value := [.int .i64 p.a.id, .int .i64 p.a.home, .int .u64 p.a.self, .slice p.A p.a.stack.length p.c, .int .i64 (upI p.a.sc)]

/-- The document's scopes and activations at block g; what they read lies in S or is their own. -/
structure RWd (B : Nat) (S : Nat → Prop) (w : World) (g : Nat) (vs vl : Value) (rb : List Nat) (ss : List Scp) (acs : List RAct) (last : Int) : Prop where
  blk : Blk w g 31 #[vs, vl, .int .i64 last]
  low : B ≤ g
  scs : w.ownsRow B 41 2 vs ss.length ((ss.zip rb).flatMap rscCells)
  acts : w.ownsRow B 57 5 vl acs.length (acs.flatMap actCells)
  len : rb.length = ss.length
  nd : rb.Nodup
  vars : ∀ (k : Nat) (s : Scp) (b : Nat), ss[k]? = some s → rb[k]? = some b → Blk w b 34 (s.vars.map wv).toArray ∧ B ≤ b
  stk : ∀ p ∈ acs, Rd S w p.A (p.a.stack.map wv)
  acy : Acy ss
def RWF (g : Nat) (vs vl : Value) (rb : List Nat) (k : Nat) : Prop := k = g ∨ vs.ownBlock = some k ∨ vl.ownBlock = some k ∨ k ∈ rb

section
variable {B g : Nat} {S : Nat → Prop} {w w' : World} {vs vl : Value} {rb : List Nat} {ss : List Scp} {acs : List RAct} {last : Int} {F : Nat → Prop}
theorem RWd.keep (h : RWd B S w g vs vl rb ss acs last) (hm : Mod F w w') (hF : ∀ k, RWF g vs vl rb k → ¬ F k) (hS : ∀ k, S k → ¬ F k) : RWd B S w' g vs vl rb ss acs last :=
  ⟨h.blk.keep hm (hF _ (.inl rfl)), h.low, own_keep h.scs hm (fun k hk => hF k (.inr (.inl hk))), own_keep h.acts hm (fun k hk => hF k (.inr (.inr (.inl hk)))), h.len, h.nd,
    fun k s b hs hb => ⟨(h.vars k s b hs hb).1.keep hm (hF b (.inr (.inr (.inr (List.mem_of_getElem? hb))))), (h.vars k s b hs hb).2⟩, fun p hp => (h.stk p hp).keep hm hS, h.acy⟩
theorem own_lt {e : TypeId} {size n : Nat} {v : Value} {xs : List Value} (h : w.ownsRow B e size v n xs) {k : Nat} (hk : v.ownBlock = some k) : B ≤ k ∧ k < w.heap.size := by
  rcases h.2 with ⟨rfl, _⟩ | ⟨g', cap, cur, rfl, hb, hg, _⟩
  · simp [Value.ownBlock] at hk
  · have : g' = k := by simpa [Value.ownBlock] using hk
    subst this
    exact ⟨hb, (Array.getElem?_eq_some_iff.1 hg).1⟩
theorem RWd.lt (h : RWd B S w g vs vl rb ss acs last) : ∀ k, RWF g vs vl rb k → B ≤ k ∧ k < w.heap.size := by
  rintro k (rfl | hk | hk | hk)
  · exact ⟨h.low, h.blk.lt⟩
  · exact own_lt h.scs hk
  · exact own_lt h.acts hk
  · obtain ⟨j, hj⟩ := List.getElem?_of_mem hk
    obtain ⟨s, hs⟩ : ∃ s, ss[j]? = some s := ⟨_, List.getElem?_eq_getElem (by rw [← h.len]; exact (List.getElem?_eq_some_iff.1 hj).1)⟩
    obtain ⟨h1, h2⟩ := h.vars j s k hs hj
    exact ⟨h2, h1.lt⟩
theorem zip_at {k : Nat} {s : Scp} (hl : rb.length = ss.length) (hs : ss[k]? = some s) : ∃ b, rb[k]? = some b ∧ ((ss.zip rb).flatMap rscCells)[k * 2]? = some (.slice (some ⟨b, 0, none⟩) s.vars.length s.vars.length) ∧ ((ss.zip rb).flatMap rscCells)[k * 2 + 1]? = some (.int .i64 (upI s.up)) := by
  have hk := (List.getElem?_eq_some_iff.1 hs).1
  have hb : rb[k]? = some rb[k] := List.getElem?_eq_getElem (by omega)
  have key : ∀ (l : List (Scp × Nat)) (k : Nat) (p : Scp × Nat), l[k]? = some p → (l.flatMap rscCells)[k * 2]? = some (.slice (some ⟨p.2, 0, none⟩) p.1.vars.length p.1.vars.length) ∧ (l.flatMap rscCells)[k * 2 + 1]? = some (.int .i64 (upI p.1.up)) := by
    intro l
    induction l with
    | nil => intro k p h; simp at h
    | cons x l ih =>
      intro k p h
      cases k with
      | zero => simp at h; subst h; exact ⟨rfl, rfl⟩
      | succ k =>
        simp at h
        obtain ⟨h1, h2⟩ := ih k p h
        rw [List.flatMap_cons]
        refine ⟨?_, ?_⟩
        · rw [show (k + 1) * 2 = (rscCells x).length + k * 2 by simp [rscCells]; omega, List.getElem?_append_right (by omega)]
          simpa using h1
        · rw [show (k + 1) * 2 + 1 = (rscCells x).length + (k * 2 + 1) by simp [rscCells]; omega, List.getElem?_append_right (by omega)]
          simpa using h2
  obtain ⟨h1, h2⟩ := key (ss.zip rb) k (s, rb[k]) (by rw [List.getElem?_zip_eq_some]; exact ⟨hs, hb⟩)
  exact ⟨_, hb, h1, h2⟩
theorem act_at {k : Nat} {p : RAct} (hp : acs[k]? = some p) : (acs.flatMap actCells)[k * 5]? = some (.int .i64 p.a.id) ∧ (acs.flatMap actCells)[k * 5 + 1]? = some (.int .i64 p.a.home) ∧ (acs.flatMap actCells)[k * 5 + 2]? = some (.int .u64 p.a.self) ∧ (acs.flatMap actCells)[k * 5 + 3]? = some (.slice p.A p.a.stack.length p.c) ∧ (acs.flatMap actCells)[k * 5 + 4]? = some (.int .i64 (upI p.a.sc)) := by
  induction acs generalizing k with
  | nil => simp at hp
  | cons x l ih =>
    cases k with
    | zero => simp at hp; subst hp; exact ⟨rfl, rfl, rfl, rfl, rfl⟩
    | succ k =>
      simp at hp
      obtain ⟨h1, h2, h3, h4, h5⟩ := ih hp
      have hl : (actCells x).length = 5 := rfl
      have e : ∀ j, ((x :: l).flatMap actCells)[(k + 1) * 5 + j]? = (l.flatMap actCells)[k * 5 + j]? := by
        intro j
        rw [List.flatMap_cons, show (k + 1) * 5 + j = (actCells x).length + (k * 5 + j) by rw [hl]; omega, List.getElem?_append_right (by omega)]
        simp
      exact ⟨(e 0).trans h1, (e 1).trans h2, (e 2).trans h3, (e 3).trans h4, (e 4).trans h5⟩
end
end Go.Proofs.Ytpjpmlhnhcmacaa
