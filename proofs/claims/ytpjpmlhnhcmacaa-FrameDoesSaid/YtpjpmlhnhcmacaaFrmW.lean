/- Contracts of frame.Stack: New, Push, Top, Pop, Len. -/
import Derived.Test.YtpjpmlhnhcmacaaBase
import Derived.WalkSpells
import Derived.BigQuiet
import Derived.BigRegion
namespace Go.Proofs.Ytpjpmlhnhcmacaa
open Go.RowKit

theorem ptr_info : (Try.prog.info? 64).map (fun i => (i.zero, i.size, i.bytes)) = some (some (.pointer none), 1, 8) := by kernel_rfl

/-- A frame: its block, its cells. -/
abbrev Fr := Nat × Array Value
def frPtr (f : Fr) : Value := .pointer (some ⟨f.1, 0, none⟩)

/-- A stack at g, its slice v, the last number, its frames. -/
def StkAt (B : Nat) (w : World) (g : Nat) (v : Value) (last : Int) (fs : List Fr) : Prop :=
  Blk w g 68 #[v, .int .i64 last] ∧ w.ownsRow B 64 1 v fs.length (fs.map frPtr) ∧ B ≤ g ∧ ∀ f ∈ fs, Blk w f.1 53 f.2 ∧ B ≤ f.1

def Foot2 (g : Nat) (v : Value) : Nat → Prop := fun k => k = g ∨ v.ownBlock = some k

theorem StkAt.keep {F : Nat → Prop} {B : Nat} {w w' : World} {g : Nat} {v : Value} {last : Int} {fs : List Fr} (h : StkAt B w g v last fs) (hm : Mod F w w') (hF : ∀ b, Foot2 g v b → ¬ F b) (hF' : ∀ f ∈ fs, ¬ F f.1) : StkAt B w' g v last fs := by
  obtain ⟨h1, h2, h3, h4⟩ := h
  exact ⟨h1.keep hm (hF g (.inl rfl)), own_keep h2 hm (fun k hk => hF k (.inr hk)), h3, fun f hf => ⟨(h4 f hf).1.keep hm (hF' f hf), (h4 f hf).2⟩⟩
theorem StkAt.keep0 {B : Nat} {w w' : World} {g : Nat} {v : Value} {last : Int} {fs : List Fr} (h : StkAt B w g v last fs) (hm : Mod Nil w w') : StkAt B w' g v last fs := h.keep hm (fun _ _ => id) (fun _ _ => id)
theorem StkAt.low {B : Nat} {w : World} {g : Nat} {v : Value} {last : Int} {fs : List Fr} (h : StkAt B w g v last fs) : ∀ k, Foot2 g v k → B ≤ k := by
  rintro k (rfl | hk)
  · exact h.2.2.1
  · exact (h.2.1.lt k hk).1
theorem StkAt.lt {B : Nat} {w : World} {g : Nat} {v : Value} {last : Int} {fs : List Fr} (h : StkAt B w g v last fs) : ∀ k, Foot2 g v k → k < w.heap.size := by
  rintro k (rfl | hk)
  · exact h.1.lt
  · exact (h.2.1.lt k hk).2
/-- A frame's block is none of the stack's own. -/
theorem StkAt.apart {B : Nat} {w : World} {g : Nat} {v : Value} {last : Int} {fs : List Fr} (h : StkAt B w g v last fs) : ∀ f ∈ fs, ¬ Foot2 g v f.1 := by
  obtain ⟨h1, h2, h3, h4⟩ := h
  intro f hf hft
  rcases hft with hk | hk
  · exact (h4 f hf).1.ne_ h1 (by decide) hk
  · exact own_blk_ne h2 (h4 f hf).1 (by decide) hk

theorem own_pop {w : World} {B : Nat} {e : TypeId} {A : Option Addr} {n c k : Nat} {xs : List Value} (h : w.ownsRow B e 1 (.slice A n c) n xs) (hk : k ≤ n) : w.ownsRow B e 1 (.slice A k c) k (xs.take k) := by
  have hl := h.1
  rcases h.2 with ⟨hv, hn⟩ | ⟨g, cap, cur, hv, hb, hg, h1, h2, h3, h4⟩
  · injection hv with hA _ hc
    subst hA hc
    obtain rfl : k = 0 := by omega
    exact ⟨by simp, .inl ⟨rfl, rfl⟩⟩
  · injection hv with hA hn hc
    subst hA hc
    refine ⟨by rw [List.length_take]; omega, .inr ⟨g, _, cur, rfl, hb, hg, by omega, h2, h3, ?_⟩⟩
    rw [← h4, List.take_take]
    congr 1
    omega

theorem stk_new (w : World) : StkAt w.heap.size (w.alloc (.cells #[.slice none 0 0, .int .i64 0] 68)) w.heap.size (.slice none 0 0) 0 [] :=
  ⟨Blk.new _ _ _, World.ownsRow_nil _ _ _ _, Nat.le_refl _, fun f hf => by simp at hf⟩

set_option maxHeartbeats 1600000 in
set_option maxRecDepth 100000 in
theorem stkNew_any (w : World) : Calls Try.prog 6 #[] w fun r w' => r = .returned (.pointer (some ⟨w.heap.size, 0, none⟩)) ∧ w' = w.alloc (.cells #[.slice none 0 0, .int .i64 0] 68) := by
  go_enter Try.func6, Try.ntmps6
  go_wp2_with fail
  go_ret
  exact ⟨rfl, rfl⟩

theorem stkLen_any (B : Nat) (g : Nat) (v : Value) (last : Int) (fs : List Fr) (w : World) (h : StkAt B w g v last fs) :
    Calls Try.prog 17 #[.pointer (some ⟨g, 0, none⟩)] w fun r w' => r = .returned (.int .i64 fs.length) ∧ w = w' := by
  obtain ⟨h1, h2, _, _⟩ := h
  obtain ⟨A, c, rfl, _, _⟩ := own_slice h2
  have hc0 := h1.cell 0
  clear h1 h2
  go_enter Try.func17, Try.ntmps17
  go_wp2_with fail
  go_ret
  exact ⟨rfl, rfl⟩

/-- A frame's cells. -/
def frCells (c : Fin 11 → Value) (id home : Int) : Array Value := #[c 0, c 1, c 2, c 3, c 4, c 5, c 6, c 7, c 8, c 9, c 10, .int .i64 id, .int .i64 home]

set_option maxHeartbeats 1600000 in
set_option maxRecDepth 100000 in
theorem push_full (B : Nat) (g : Nat) (v : Value) (last : Int) (fs : List Fr) (c : Fin 11 → Value) (id home : Int) (w : World) (h : StkAt B w g v last fs) (hf : fs.length = 200) :
    Calls Try.prog 11 #[.pointer (some ⟨g, 0, none⟩), .agg (frCells c id home)] w fun r w' => r = .returned (.tuple #[.int .i64 0, .int .i64 42]) ∧ Mod Nil w w' := by
  obtain ⟨h1, h2, _, _⟩ := h
  obtain ⟨A, cap, rfl, _, _⟩ := own_slice h2
  have hc0 := h1.cell 0
  have hgl := h1.lt
  rw [hf] at hc0
  clear h1 h2 hf
  unfold frCells
  go_enter Try.func11, Try.ntmps11
  go_wp2_with fail
  go_ret2
  exact ⟨rfl, (Mod.refl _ _).alloc _⟩

/-- What a Push leaves. -/
def PushPost (B g : Nat) (v : Value) (last : Int) (fs : List Fr) (w : World) (c : Fin 11 → Value) (home : Int) (r : Ending) (w' : World) : Prop :=
  r = .returned (.tuple #[.int .i64 (last + 1), .int .i64 0]) ∧ ∃ v', StkAt B w' g v' (last + 1) (fs ++ [(w.heap.size, frCells c (last + 1) (if home = 0 then last + 1 else home))]) ∧ Mod (Foot2 g v) w w' ∧ ∀ k, v'.ownBlock = some k → v.ownBlock = some k ∨ w.heap.size ≤ k


theorem push_after {B g n cap c' : Nat} {A A' : Option Addr} {last : Int} {fs : List Fr} {w wA w' : World} {F : Array Value} (h : StkAt B w g (.slice A n cap) last fs) (hn : fs.length = n)
    (hm : Mod (fun k => k = g) w wA) (hb : Blk wA g 68 #[.slice A n cap, .int .i64 (last + 1)]) (hF : Blk wA w.heap.size 53 F) (hB : B ≤ w.heap.size)
    (hown : w'.ownsRow B 64 1 (.slice A' (n + 1) c') (n + 1) (fs.map frPtr ++ [.pointer (some ⟨w.heap.size, 0, none⟩)]))
    (hmod : Mod (fun k => (Value.slice A n cap).ownBlock = some k) wA w') (hat : ∀ k, (Value.slice A' (n + 1) c').ownBlock = some k → (Value.slice A n cap).ownBlock = some k ∨ wA.heap.size ≤ k) :
    StkAt B (w'.setCell ⟨g, 0, none⟩ (.slice A' (n + 1) c')) g (.slice A' (n + 1) c') (last + 1) (fs ++ [(w.heap.size, F)]) ∧ Mod (Foot2 g (.slice A n cap)) w (w'.setCell ⟨g, 0, none⟩ (.slice A' (n + 1) c')) ∧
      ∀ k, (Value.slice A' (n + 1) c').ownBlock = some k → (Value.slice A n cap).ownBlock = some k ∨ w.heap.size ≤ k := by
  have hap := h.apart
  obtain ⟨h1, h2, h3, h4⟩ := h
  have hne : ¬ (Value.slice A n cap).ownBlock = some g := own_blk_ne h2 h1 (by decide)
  have hb' : Blk w' g 68 #[.slice A n cap, .int .i64 (last + 1)] := hb.keep hmod hne
  have hF' : Blk w' w.heap.size 53 F := hF.keep hmod (fun hk => by have := (h2.lt _ hk).2; omega)
  have hne' : ¬ (Value.slice A' (n + 1) c').ownBlock = some g := own_blk_ne hown hb' (by decide)
  have hms : Mod (fun k => k = g) w' (w'.setCell ⟨g, 0, none⟩ (.slice A' (n + 1) c')) := (Mod.refl (fun k => k = g) w').set (p := ⟨g, 0, none⟩) (.inl rfl) _
  have hgl := h1.lt
  refine ⟨⟨by simpa using hb'.set_ 0 (.slice A' (n + 1) c'), ?_, h3, ?_⟩, ?_, ?_⟩
  · have := own_keep hown hms (fun k hk hkg => hne' (by rw [hk, hkg]))
    simpa [hn, frPtr] using this
  · intro f hf
    rcases List.mem_append.1 hf with hf | hf
    · obtain ⟨hf1, hf2⟩ := h4 f hf
      have hp := hap f hf
      exact ⟨((hf1.keep hm (fun hk => hp (.inl hk))).keep hmod (fun hk => hp (.inr hk))).keep hms (fun hk => hp (.inl hk)), hf2⟩
    · obtain rfl : f = (w.heap.size, F) := by simpa using hf
      exact ⟨hF'.keep hms (by show ¬ w.heap.size = g; omega), hB⟩
  · exact ((hm.trans' hmod (H := Foot2 g (.slice A n cap)) (fun _ _ hk => .inl hk) (fun _ _ hk => .inr hk)).trans' hms (fun _ _ hk => hk) (fun _ _ hk => .inl hk))
  · intro k hk
    rcases hat k hk with hk | hk
    · exact .inl hk
    · exact .inr (Nat.le_trans hm.size hk)


set_option maxHeartbeats 1600000 in
set_option maxRecDepth 100000 in
theorem push_ok (B : Nat) (g : Nat) (v : Value) (last : Int) (fs : List Fr) (c : Fin 11 → Value) (id home : Int) (w : World) (h : StkAt B w g v last fs) (hB : B ≤ w.heap.size) (hf : fs.length < 200) (hl0 : 0 ≤ last) (hl1 : last ≤ 1000000000) :
    Calls Try.prog 11 #[.pointer (some ⟨g, 0, none⟩), .agg (frCells c id home)] w (PushPost B g v last fs w c home) := by
  obtain ⟨i0, hi, hz0, hz1, hz2⟩ := info_parts ptr_info
  have HH := Lib.hid h
  obtain ⟨h1, h2, h3, h4⟩ := h
  obtain ⟨A, cap, rfl, _, _⟩ := own_slice h2
  have hc0 := h1.cell 0
  have hc1 := h1.cell 1
  have hf0 := h1.frozen 0
  have hf1 := h1.frozen 1
  have hgl := h1.lt
  have hn200 : ((fs.length : Int) == 200) = false := by simp; omega
  have HNE := Lib.hid (show ∀ k, (Value.slice A fs.length cap).ownBlock = some k → ¬ k = g from fun k hk hkg => own_blk_ne h2 h1 (by decide) (hkg ▸ hk))
  have HNF := Lib.hid (show ¬ (Value.slice A fs.length cap).ownBlock = some w.heap.size from fun hk => by have := (h2.lt _ hk).2; omega)
  obtain ⟨hm, hhm⟩ : ∃ hm, hm = (if home = 0 then last + 1 else home) := ⟨_, rfl⟩
  have hs1 : (w.setCell ⟨g, 1, none⟩ (.int .i64 (last + 1))).heap.size = w.heap.size := by simp [World.setCell]
  have hb1 : Blk (w.setCell ⟨g, 1, none⟩ (.int .i64 (last + 1))) g 68 #[.slice A fs.length cap, .int .i64 (last + 1)] := by simpa using h1.set_ 1 (.int .i64 (last + 1))
  have hb2 := hb1.alloc (.cells (frCells c (last + 1) hm) 53)
  have hbf := Blk.new (w.setCell ⟨g, 1, none⟩ (.int .i64 (last + 1))) 53 (frCells c (last + 1) hm)
  rw [hs1] at hbf
  have HBA := Lib.hid (hb2.alloc (.cells #[Value.pointer (some ⟨w.heap.size, 0, none⟩)] 64))
  have HBF := Lib.hid (hbf.alloc (.cells #[Value.pointer (some ⟨w.heap.size, 0, none⟩)] 64))
  have HM := Lib.hid ((((Mod.refl (fun k => k = g) w).set (p := ⟨g, 1, none⟩) (.inl rfl) (.int .i64 (last + 1))).alloc (.cells (frCells c (last + 1) hm) 53)).alloc (.cells #[Value.pointer (some ⟨w.heap.size, 0, none⟩)] 64))
  have HW := Lib.hid (show ((w.setCell ⟨g, 1, none⟩ (.int .i64 (last + 1))).alloc (.cells (frCells c (last + 1) hm) 53)).heap.size = w.heap.size + 1 by simp [World.setCell])
  have H1 := Lib.hid h1
  have H2 := Lib.hid h2
  clear h1 h2 h4 h3 hs1 hb1 hb2 hbf
  have hgne : g ≠ w.heap.size := by omega
  by_cases h0 : home = 0
  · subst h0
    obtain rfl : hm = last + 1 := by simpa using hhm
    have H0 := Lib.hid hhm
    clear hhm
    unfold frCells
    go_enter Try.func11, Try.ntmps11
    go_wp2_with (at_builtin; refine wpList_append1' _ rfl (.tmp 34) (.tmp 35) 66 rfl B 64 i0 (.pointer none) 8 Try.underlying66 hi hz0 hz1 hz2 rfl (.slice A fs.length cap) fs.length (fs.map frPtr) rfl (own_keep H2.out HM.out HNE.out) All _ 1 1 [.pointer (some ⟨w.heap.size, 0, none⟩)] rfl rfl (HW.out ▸ Rd.cells1 _ _ _) (by intro u hu; obtain rfl := List.mem_singleton.1 hu; rfl) (by omega) (by simp only [maxLen]; omega) (by simp [World.setCell]; omega) ?_; intro A' c' w' hown' hmod' hat'; have hb' := HBA.out.keep hmod' (fun hk => HNE.out _ hk rfl); have hF' := HBF.out.keep hmod' HNF.out; have hc0' := hb'.cell 0; have hf0' := hb'.frozen 0; have hfc : w'.cell? ⟨w.heap.size, 11, none⟩ = some (.int .i64 (last + 1)) := hF'.cell 11; have HPO := Lib.hid (push_after HH.out rfl HM.out HBA.out HBF.out hB hown' hmod' hat'); clear hb' hF' hown' hmod' hat')
    go_ret2
    obtain ⟨q1, q2, q3⟩ := HPO.out
    exact ⟨rfl, _, by simpa [frCells, H0] using q1, q2, q3⟩
  · have h0b : (home == 0) = false := by simp; omega
    rw [if_neg h0] at hhm
    subst hhm
    have H0 := Lib.hid h0
    clear h0
    unfold frCells
    go_enter Try.func11, Try.ntmps11
    go_wp2_with (at_builtin; refine wpList_append1' _ rfl (.tmp 34) (.tmp 35) 66 rfl B 64 i0 (.pointer none) 8 Try.underlying66 hi hz0 hz1 hz2 rfl (.slice A fs.length cap) fs.length (fs.map frPtr) rfl (own_keep H2.out HM.out HNE.out) All _ 1 1 [.pointer (some ⟨w.heap.size, 0, none⟩)] rfl rfl (HW.out ▸ Rd.cells1 _ _ _) (by intro u hu; obtain rfl := List.mem_singleton.1 hu; rfl) (by omega) (by simp only [maxLen]; omega) (by simp [World.setCell]; omega) ?_; intro A' c' w' hown' hmod' hat'; have hb' := HBA.out.keep hmod' (fun hk => HNE.out _ hk rfl); have hF' := HBF.out.keep hmod' HNF.out; have hc0' := hb'.cell 0; have hf0' := hb'.frozen 0; have hfc : w'.cell? ⟨w.heap.size, 11, none⟩ = some (.int .i64 (last + 1)) := hF'.cell 11; have HPO := Lib.hid (push_after HH.out rfl HM.out HBA.out HBF.out hB hown' hmod' hat'); clear hb' hF' hown' hmod' hat')
    go_ret2
    obtain ⟨q1, q2, q3⟩ := HPO.out
    exact ⟨rfl, _, by rw [if_neg H0.out]; exact q1, q2, q3⟩
end Go.Proofs.Ytpjpmlhnhcmacaa
