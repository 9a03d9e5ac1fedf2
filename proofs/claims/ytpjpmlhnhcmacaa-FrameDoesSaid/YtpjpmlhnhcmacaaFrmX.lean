/- Contracts of frame.Stack: Top, Pop. -/
import Derived.Test.YtpjpmlhnhcmacaaFrmW
import Derived.BigRegion
namespace Go.Proofs.Ytpjpmlhnhcmacaa
open Go.RowKit

/-- The frame on top. -/
def topPtr (fs : List Fr) : Value := match fs.getLast? with | none => .pointer none | some f => frPtr f

set_option maxHeartbeats 1600000 in
set_option maxRecDepth 100000 in
theorem stkTop_any (B : Nat) (g : Nat) (v : Value) (last : Int) (fs : List Fr) (w : World) (h : StkAt B w g v last fs) (hbig : fs.length ≤ 200) :
    Calls Try.prog 21 #[.pointer (some ⟨g, 0, none⟩)] w fun r w' => r = .returned (topPtr fs) ∧ Mod Nil w w' := by
  obtain ⟨h1, h2, _, _⟩ := h
  have hc0 := h1.cell 0
  have hf0 := h1.frozen 0
  rcases List.eq_nil_or_concat fs with rfl | ⟨l, f, rfl⟩
  · obtain ⟨A, c, rfl, _, _⟩ := own_slice h2
    clear h1 h2
    go_enter Try.func21, Try.ntmps21
    go_wp2_with fail
    go_ret
    exact ⟨rfl, Mod.refl _ _⟩
  · have hl : (l.concat f).length = l.length + 1 := by simp
    rw [hl] at h2
    obtain ⟨b, cap, rfl, hb, hlt⟩ := h2.form (by omega)
    have htop : topPtr (l.concat f) = frPtr f := by simp [topPtr]
    have hcell := h2.cells (g := b) rfl l.length (frPtr f) (by simp)
    rw [htop]
    rw [Addr.add_lit, Nat.zero_add] at hcell
    clear h1 h2 htop
    generalize l.length = n at *
    have hn0 : (((n + 1 : Nat) : Int) == 0) = false := by simp; omega
    go_enter Try.func21, Try.ntmps21
    go_wp2_with (go_quiet (fail))
    go_ret
    exact ⟨rfl, (Mod.refl _ _).drewN _⟩

/-- What a Pop leaves of a stack: the first n frames. -/
def CutPost (B g : Nat) (v : Value) (last : Int) (fs : List Fr) (w : World) (n : Nat) (b : Bool) (r : Ending) (w' : World) : Prop :=
  r = .returned (.bool b) ∧ ∃ v', StkAt B w' g v' last (fs.take n) ∧ Mod (Foot2 g v) w w' ∧ ∀ k, v'.ownBlock = some k → v.ownBlock = some k

theorem cut_after {B g n k cap : Nat} {A : Option Addr} {last : Int} {fs : List Fr} {w wA : World} (h : StkAt B w g (.slice A n cap) last fs) (hn : fs.length = n) (hk : k ≤ n) (hm : Mod Nil w wA) :
    StkAt B (wA.setCell ⟨g, 0, none⟩ (.slice A k cap)) g (.slice A k cap) last (fs.take k) ∧ Mod (Foot2 g (.slice A n cap)) w (wA.setCell ⟨g, 0, none⟩ (.slice A k cap)) ∧
      ∀ b, (Value.slice A k cap).ownBlock = some b → (Value.slice A n cap).ownBlock = some b := by
  have h' := h.keep0 hm
  have hap := h'.apart
  obtain ⟨h1, h2, h3, h4⟩ := h'
  have hne : ¬ (Value.slice A n cap).ownBlock = some g := own_blk_ne h2 h1 (by decide)
  have hms : Mod (fun k => k = g) wA (wA.setCell ⟨g, 0, none⟩ (.slice A k cap)) := (Mod.refl (fun k => k = g) wA).set (p := ⟨g, 0, none⟩) (.inl rfl) _
  have hob : ∀ b, (Value.slice A k cap).ownBlock = some b → (Value.slice A n cap).ownBlock = some b := by
    intro b hb
    cases A with
    | none => cases hb
    | some a => exact hb
  have h2' : wA.ownsRow B 64 1 (.slice A k cap) k ((fs.take k).map frPtr) := by
    subst hn
    have := own_pop h2 hk
    rwa [← List.map_take] at this
  have hlen : (fs.take k).length = k := by rw [List.length_take]; omega
  refine ⟨⟨by simpa using h1.set_ 0 (.slice A k cap), ?_, h3, fun f hf => ?_⟩, ?_, hob⟩
  · rw [hlen]
    exact own_keep h2' hms (fun b hb hbg => hne (hob g (hbg ▸ hb)))
  · have hf' := List.mem_of_mem_take hf
    exact ⟨(h4 f hf').1.keep hms (fun hk => hap f hf' (.inl hk)), (h4 f hf').2⟩
  · exact (hm.any (F := Foot2 g (.slice A n cap))).trans' hms (fun _ _ hk => hk) (fun _ _ hk => .inl hk)

set_option maxHeartbeats 1600000 in
set_option maxRecDepth 100000 in
theorem stkPop_any (B : Nat) (g : Nat) (v : Value) (last : Int) (fs : List Fr) (w : World) (h : StkAt B w g v last fs) (hbig : fs.length ≤ 200) :
    Calls Try.prog 13 #[.pointer (some ⟨g, 0, none⟩)] w (CutPost B g v last fs w (fs.length - 1) (0 < fs.length)) := by
  have H := Lib.hid h
  obtain ⟨h1, h2, _, _⟩ := h
  have hc0 := h1.cell 0
  have hf0 := h1.frozen 0
  have hgl := h1.lt
  obtain ⟨A, c, rfl, hc1, hc2⟩ := own_slice h2
  clear h1 h2
  by_cases h0 : fs.length = 0
  · obtain rfl : fs = [] := List.eq_nil_of_length_eq_zero h0
    clear h0
    go_enter Try.func13, Try.ntmps13
    go_wp2_with fail
    go_ret
    exact ⟨rfl, _, H.out, Mod.refl _ _, fun _ h => h⟩
  · obtain ⟨m, hm⟩ : ∃ m, fs.length = m + 1 := ⟨fs.length - 1, by omega⟩
    have HM := Lib.hid hm
    rw [hm] at hc0 hc1 hbig
    rw [hm]
    have H' := H.out
    rw [hm] at H'
    have HN := Lib.hid H'
    clear hm h0 H'
    have hn0 : (((m + 1 : Nat) : Int) == 0) = false := by simp; omega
    have hmax : maxLen = 9223372036854775807 := rfl
    go_enter Try.func13, Try.ntmps13
    go_wp2_with go_region
    go_ret
    obtain ⟨q1, q2, q3⟩ := cut_after HN.out HM.out (Nat.le_succ m) (Mod.refl Nil w)
    exact ⟨by simp, _, q1, q2.drew, q3⟩
end Go.Proofs.Ytpjpmlhnhcmacaa
