/- A disk in memory; contracts of its small calls. -/
import Derived.Test.YtjmehamkpmimkaaDskL
namespace Go.Proofs.Ytjmehamkpmimkaa
open Go.RowKit

/-- What a disk is. -/
structure DSt where
  S : List UInt8
  ws : List (Nat × List UInt8)
  left : Int

/-- A write that waits, in memory. -/
structure Wt where
  at_ : Nat
  b : Nat
  cap : Nat
  l : List UInt8

def Wt.v (x : Wt) : Value := .slice (some ⟨x.b, 0, none⟩) 64 x.cap
def Wt.cells (x : Wt) : List Value := [.int .i64 x.at_, x.v]
def Wt.st (x : Wt) : Nat × List UInt8 := (x.at_, x.l)
def WtAt (B : Nat) (w : World) (vs : Value) (N : Nat) (x : Wt) : Prop := w.ownsRow B 5 1 x.v 64 (x.l.map bv) ∧ 64 * x.at_ + 64 ≤ N ∧ vs.ownBlock ≠ some x.b

def DF (g : Nat) (vs vw : Value) (wts : List Wt) (k : Nat) : Prop := k = g ∨ vs.ownBlock = some k ∨ vw.ownBlock = some k ∨ ∃ x ∈ wts, x.b = k

structure DskIs (B : Nat) (w : World) (g : Nat) (vs vw : Value) (wts : List Wt) (s : DSt) : Prop where
  blk : Blk w g 101 #[vs, vw, .int .i64 s.left]
  low : B ≤ g
  sure : w.ownsRow B 5 1 vs s.S.length (s.S.map bv)
  waits : w.ownsRow B 103 2 vw wts.length (wts.flatMap Wt.cells)
  all : ∀ x ∈ wts, WtAt B w vs s.S.length x
  st : s.ws = wts.map Wt.st
  pos : 0 < s.S.length
  big : s.S.length ≤ 4194304
  mod : s.S.length % 64 = 0

/-- A disk at g, in the blocks F. -/
def DskAt (B : Nat) (w : World) (g : Nat) (F : Nat → Prop) (s : DSt) : Prop := ∃ vs vw wts, F = DF g vs vw wts ∧ DskIs B w g vs vw wts s

theorem WtAt.blk {B N : Nat} {w : World} {vs : Value} {x : Wt} (h : WtAt B w vs N x) : ∃ cs, Blk w x.b 5 cs ∧ B ≤ x.b := by
  obtain ⟨cur, hh, _, _, _, hb⟩ := own_heap h.1
  exact ⟨_, hh, hb⟩
theorem DskIs.ne_sure {B : Nat} {w : World} {g : Nat} {vs vw : Value} {wts : List Wt} {s : DSt} (h : DskIs B w g vs vw wts s) : vs.ownBlock ≠ some g := own_blk_ne h.sure h.blk (by decide)
theorem DskIs.ne_waits {B : Nat} {w : World} {g : Nat} {vs vw : Value} {wts : List Wt} {s : DSt} (h : DskIs B w g vs vw wts s) : vw.ownBlock ≠ some g := own_blk_ne h.waits h.blk (by decide)
theorem DskIs.keep {G : Nat → Prop} {B : Nat} {w w' : World} {g : Nat} {vs vw : Value} {wts : List Wt} {s : DSt} (h : DskIs B w g vs vw wts s) (hm : Mod G w w') (hF : ∀ k, DF g vs vw wts k → ¬ G k) : DskIs B w' g vs vw wts s :=
  ⟨h.blk.keep hm (hF g (.inl rfl)), h.low, own_keep h.sure hm (fun k hk => hF k (.inr (.inl hk))), own_keep h.waits hm (fun k hk => hF k (.inr (.inr (.inl hk)))),
    fun x hx => ⟨own_keep (h.all x hx).1 hm (fun k hk => hF k (.inr (.inr (.inr ⟨x, hx, by simpa [Wt.v, Value.ownBlock] using hk⟩)))), (h.all x hx).2⟩, h.st, h.pos, h.big, h.mod⟩
theorem DskIs.lt {B : Nat} {w : World} {g : Nat} {vs vw : Value} {wts : List Wt} {s : DSt} (h : DskIs B w g vs vw wts s) : ∀ k, DF g vs vw wts k → B ≤ k ∧ k < w.heap.size := by
  rintro k (rfl | hk | hk | ⟨x, hx, rfl⟩)
  · exact ⟨h.low, h.blk.lt⟩
  · exact h.sure.lt k hk
  · exact h.waits.lt k hk
  · exact (h.all x hx).1.lt x.b rfl
theorem DskAt.keep {F G : Nat → Prop} {B : Nat} {w w' : World} {g : Nat} {s : DSt} (h : DskAt B w g F s) (hm : Mod G w w') (hF : ∀ k, F k → ¬ G k) : DskAt B w' g F s := by
  obtain ⟨vs, vw, wts, rfl, h⟩ := h
  exact ⟨vs, vw, wts, rfl, h.keep hm hF⟩
theorem DskAt.keep0 {F : Nat → Prop} {B : Nat} {w w' : World} {g : Nat} {s : DSt} (h : DskAt B w g F s) (hm : Mod Nil w w') : DskAt B w' g F s := h.keep hm (fun _ _ => id)
theorem DskAt.lt {F : Nat → Prop} {B : Nat} {w : World} {g : Nat} {s : DSt} (h : DskAt B w g F s) : ∀ k, F k → B ≤ k ∧ k < w.heap.size := by
  obtain ⟨vs, vw, wts, rfl, h⟩ := h
  exact h.lt

/-- What a call on a disk leaves. -/
def DskPost (B : Nat) (w : World) (g : Nat) (F : Nat → Prop) (s : DSt) (e : Ending) (r : Ending) (w' : World) : Prop :=
  r = e ∧ ∃ F', DskAt B w' g F' s ∧ Mod F w w' ∧ ∀ k, F' k → F k ∨ w.heap.size ≤ k

/-- Only the number of calls that are done has turned. -/
theorem DskIs.left_ {B : Nat} {w : World} {g : Nat} {vs vw : Value} {wts : List Wt} {s : DSt} (h : DskIs B w g vs vw wts s) (n : Int) : DskIs B (w.setCell ⟨g, 2, none⟩ (.int .i64 n)) g vs vw wts { s with left := n } := by
  have hm : Mod (fun k => k = g) w (w.setCell ⟨g, 2, none⟩ (.int .i64 n)) := (Mod.refl (fun k => k = g) w).set (p := ⟨g, 2, none⟩) (.inl rfl) _
  refine ⟨by simpa using h.blk.set_ 2 (.int .i64 n), h.low, own_keep h.sure hm (fun k hk hkg => h.ne_sure (hkg ▸ hk)), own_keep h.waits hm (fun k hk hkg => h.ne_waits (hkg ▸ hk)), fun x hx => ⟨own_keep (h.all x hx).1 hm (fun k hk hkg => ?_), (h.all x hx).2⟩, h.st, h.pos, h.big, h.mod⟩
  obtain ⟨cs, hb, _⟩ := (h.all x hx).blk
  exact hb.ne_ h.blk (by decide) (by have : x.b = k := by simpa [Wt.v, Value.ownBlock] using hk
                                     rw [this]; exact hkg)
theorem DskIs.post {B : Nat} {w w' : World} {g : Nat} {vs vw : Value} {wts : List Wt} {s : DSt} (h : DskIs B w' g vs vw wts s) {e : Ending} (hm : Mod (DF g vs vw wts) w w') : DskPost B w g (DF g vs vw wts) s e e w' :=
  ⟨rfl, _, ⟨vs, vw, wts, rfl, h⟩, hm, fun _ h => .inl h⟩

theorem dskSize_any (B g : Nat) (F : Nat → Prop) (s : DSt) (w : World) (h : DskAt B w g F s) :
    Calls Try.prog 56 #[.pointer (some ⟨g, 0, none⟩)] w fun r w' => r = .returned (.int .i64 (s.S.length / 64 : Nat)) ∧ w = w' := by
  obtain ⟨vs, vw, wts, rfl, h⟩ := h
  have hc0 := h.blk.cell 0
  obtain ⟨A, c, rfl, _, _⟩ := own_slice h.sure
  have hb := h.big
  clear h
  go_enter Try.func56, Try.ntmps56
  go_wp2_with fail
  go_ret
  refine ⟨ret_int (by omega), rfl⟩

/-- Is there a sector? -/
def DSt.there (s : DSt) (n : Int) : Bool := decide (0 ≤ n ∧ n < (s.S.length / 64 : Nat))

theorem dskThere_any (B g : Nat) (F : Nat → Prop) (s : DSt) (n : Int) (w : World) (h : DskAt B w g F s) :
    Calls Try.prog 68 #[.pointer (some ⟨g, 0, none⟩), .int .i64 n] w fun r w' => r = .returned (.bool (s.there n)) ∧ w = w' := by
  have HC := Lib.hid (dskSize_any B g F s w h)
  clear h
  unfold DSt.there
  by_cases h0 : 0 ≤ n
  · go_enter Try.func68, Try.ntmps68
    go_wp2_with fail
    refine HC.out.mono ?_
    rintro r w' ⟨rfl, rfl⟩
    go_wp2_with fail
    go_ret
    exact ⟨ret_bool (by simp [h0]), rfl⟩
  · go_enter Try.func68, Try.ntmps68
    go_wp2_with fail
    go_ret
    exact ⟨ret_bool (by simp; omega), rfl⟩

/-- Is the power on? -/
def DSt.on (s : DSt) : Bool := decide (s.left ≠ 0)
/-- One call less. -/
def DSt.spend (s : DSt) : DSt := if 0 < s.left then { s with left := s.left - 1 } else s

theorem dskOn_any (B g : Nat) (F : Nat → Prop) (s : DSt) (w : World) (h : DskAt B w g F s) (hl : s.left ≤ 9223372036854775807) :
    Calls Try.prog 69 #[.pointer (some ⟨g, 0, none⟩)] w (DskPost B w g F s.spend (.returned (.bool s.on))) := by
  obtain ⟨vs, vw, wts, rfl, h⟩ := h
  have hc2 := h.blk.cell 2
  have hf2 := h.blk.frozen 2
  have hgl := h.blk.lt
  have H := Lib.hid h
  clear h
  by_cases h0 : 0 < s.left
  · have e1 : s.spend = { s with left := s.left - 1 } := by simp [DSt.spend, h0]
    have HE := Lib.hid e1
    have e2 : s.on = true := by simp [DSt.on]; omega
    rw [e2]
    clear e1 e2
    go_enter Try.func69, Try.ntmps69
    go_wp2_with fail
    go_ret
    rw [HE.out]
    exact (H.out.left_ _).post ((Mod.refl _ _).set (.inl (.inl rfl)) _)
  · have e1 : s.spend = s := by simp [DSt.spend, h0]
    have HE := Lib.hid e1
    clear e1
    go_enter Try.func69, Try.ntmps69
    go_wp2_with fail
    go_ret
    rw [HE.out]
    have : decide (s.left < 0) = s.on := by unfold DSt.on; by_cases h1 : s.left < 0 <;> simp [h1] <;> omega
    exact this ▸ H.out.post (Mod.refl _ _)

theorem dskPower_any (B g : Nat) (F : Nat → Prop) (s : DSt) (n : Int) (w : World) (h : DskAt B w g F s) :
    Calls Try.prog 20 #[.pointer (some ⟨g, 0, none⟩), .int .i64 n] w (DskPost B w g F { s with left := max n (-1) } (.returned (.tuple #[]))) := by
  obtain ⟨vs, vw, wts, rfl, h⟩ := h
  have hf2 := h.blk.frozen 2
  have hc2 := h.blk.cell 2
  have hgl := h.blk.lt
  have H := Lib.hid h
  clear h
  obtain ⟨m, hm⟩ : ∃ m, m = max n (-1) := ⟨_, rfl⟩
  rw [← hm]
  by_cases h0 : n < -1
  · obtain rfl : m = -1 := by omega
    clear hm
    go_enter Try.func20, Try.ntmps20
    go_wp2_with fail
    go_end0
    exact (H.out.left_ _).post ((Mod.refl _ _).set (.inl (.inl rfl)) _)
  · obtain rfl : m = n := by omega
    clear hm
    go_enter Try.func20, Try.ntmps20
    go_wp2_with fail
    go_end0
    exact (H.out.left_ _).post ((Mod.refl _ _).set (.inl (.inl rfl)) _)
end Go.Proofs.Ytjmehamkpmimkaa
