/- Contracts of octet.Writer. -/
import Derived.Test.YtjmehamkpmimkaaStr
import Derived.Deep.RegionLaw
import Derived.Deep.RegionLawGrows
import Derived.BigQuiet
namespace Go.Proofs.Ytjmehamkpmimkaa
open Go.RowKit

/-- The octets of a number, so many, the highest first. -/
def beBytes : Nat → Nat → List UInt8
  | 0, _ => []
  | n + 1, x => UInt8.ofNat (x / 256 ^ n) :: beBytes n x
theorem beBytes_len (n x : Nat) : (beBytes n x).length = n := by
  induction n with
  | zero => rfl
  | succ n ih => rw [beBytes, List.length_cons, ih]

/-- A writer at g, its slice v: what it has written, its error; all of it from block B on. -/
def WriterAt (B : Nat) (w : World) (g : Nat) (v : Value) (l : List UInt8) (e : Int) : Prop :=
  Blk w g 131 #[v, .int .i64 e] ∧ w.ownsRow B 5 1 v l.length (l.map bv) ∧ B ≤ g

/-- The blocks of an object of a struct and a slice. -/
def Foot (g : Nat) (v : Value) : Nat → Prop := fun k => k = g ∨ v.ownBlock = some k

theorem WriterAt.keep {F : Nat → Prop} {B : Nat} {w w' : World} {g : Nat} {v : Value} {l : List UInt8} {e : Int} (h : WriterAt B w g v l e) (hm : Mod F w w') (hF : ∀ b, Foot g v b → ¬ F b) : WriterAt B w' g v l e := by
  obtain ⟨h1, h2, h3⟩ := h
  exact ⟨h1.keep hm (hF g (.inl rfl)), own_keep h2 hm (fun k hk => hF k (.inr hk)), h3⟩
theorem WriterAt.low {B : Nat} {w : World} {g : Nat} {v : Value} {l : List UInt8} {e : Int} (h : WriterAt B w g v l e) : ∀ k, Foot g v k → B ≤ k := by
  rintro k (rfl | hk)
  · exact h.2.2
  · exact (h.2.1.lt k hk).1
theorem WriterAt.lt {B : Nat} {w : World} {g : Nat} {v : Value} {l : List UInt8} {e : Int} (h : WriterAt B w g v l e) : ∀ k, Foot g v k → k < w.heap.size := by
  rintro k (rfl | hk)
  · exact h.1.lt
  · exact (h.2.1.lt k hk).2

/-- What a call on a writer leaves. -/
def WrLeft (B g : Nat) (w : World) (v : Value) (l : List UInt8) (e : Int) (r : Ending) (w' : World) : Prop :=
  r = .returned (.tuple #[]) ∧ ∃ v', WriterAt B w' g v' l e ∧ Mod (Foot g v) w w' ∧ ∀ k, v'.ownBlock = some k → v.ownBlock = some k ∨ w.heap.size ≤ k

set_option maxHeartbeats 1600000 in
set_option maxRecDepth 100000 in
theorem put_bad (B g : Nat) (v : Value) (l : List UInt8) (e : Int) (x size : Nat) (w : World) (h : WriterAt B w g v l e) (he : e ≠ 0) (hs : size ≤ 8) :
    Calls Try.prog 102 #[.pointer (some ⟨g, 0, none⟩), .int .u64 (x : Int), .int .i64 (size : Int)] w fun r w' => r = .returned (.tuple #[]) ∧ w = w' := by
  obtain ⟨h1, h2, h3⟩ := h
  have hc1 := h1.cell 1
  have he0 : (e == 0) = false := by simp; omega
  have HE := Lib.hid he
  clear h1 h2 he
  by_cases h0 : size = 0
  · subst h0
    go_enter Try.func102, Try.ntmps102
    go_wp2_with fail
    refine wp_loop_once ?_
    go_wp2_with fail
    go_end0
    exact ⟨rfl, rfl⟩
  · go_enter Try.func102, Try.ntmps102
    go_wp2_with fail
    refine wp_loop_once ?_
    go_wp2_with fail
    go_end0
    exact ⟨rfl, rfl⟩

theorem beBytes_u64 (x j : Nat) : Value.int IntKind.u8 ((x : Int) / 2 ^ (8 * j) % 256) = bv (UInt8.ofNat (x / 256 ^ j)) := by
  have e : (256 : Nat) ^ j = 2 ^ (8 * j) := by rw [Nat.pow_mul]
  unfold bv
  rw [UInt8.toNat_ofNat', e]
  simp

set_option maxHeartbeats 1600000 in
set_option maxRecDepth 100000 in
theorem put_ok (B g : Nat) (v0 : Value) (l : List UInt8) (x size : Nat) (w : World) (h : WriterAt B w g v0 l 0) (hx : x < 18446744073709551616) (hs : size ≤ 8) (hB : B ≤ w.heap.size) (hbig : l.length + size ≤ 1000000000) :
    Calls Try.prog 102 #[.pointer (some ⟨g, 0, none⟩), .int .u64 (x : Int), .int .i64 (size : Int)] w (WrLeft B g w v0 (l ++ beBytes size x) 0) := by
  obtain ⟨i0, hi, hz0, hz1, hz2⟩ := info_parts u8_info
  have H := Lib.hid h
  have HX := Lib.hid hx
  clear h hx
  go_enter Try.func102, Try.ntmps102
  go_wp2_with fail
  go_loopw [6] (fun i wr => ∃ (r : Nat) (m : List UInt8) (v : Value), r ≤ size ∧ i = .int .i64 ((r : Int) - 1) ∧ WriterAt B wr g v m 0 ∧ m ++ beBytes r x = l ++ beBytes size x ∧ Mod (Foot g v0) w wr ∧ ∀ k, v.ownBlock = some k → v0.ownBlock = some k ∨ w.heap.size ≤ k) (fun i _ => (intOf i + 1).toNat)
  case atStart => exact ⟨size, l, v0, Nat.le_refl _, rfl, H.out, rfl, Mod.refl _ _, fun _ h => .inl h⟩
  case round =>
    obtain ⟨r, m, v, hr, rfl, hw, hm, hmod, hat0⟩ := hrel
    have HM := Lib.hid hm
    have HMOD := Lib.hid hmod
    have HAT0 := Lib.hid hat0
    obtain ⟨h1, h2, h3⟩ := hw
    have hlen : m.length ≤ l.length + size := by
      have := congrArg List.length hm
      simp [beBytes_len] at this
      omega
    clear hm hmod hat0
    rcases r with _ | j
    · have hfin : m = l ++ beBytes size x := by have := HM.out; simpa [beBytes] using this
      have HF := Lib.hid hfin
      have H1 := Lib.hid h1
      have H2 := Lib.hid h2
      clear hfin h1 h2
      go_wp2_with fail
      go_end0
      rw [← HF.out]
      exact ⟨rfl, v, ⟨H1.out, H2.out, h3⟩, HMOD.out, HAT0.out⟩
    · have hj : j < 8 := by omega
      have hj1 : ((j + 1 : Nat) : Int) - 1 = (j : Int) := by omega
      rw [hj1]
      have hc0 := h1.cell 0
      have hc1 := h1.cell 1
      have hf0 := h1.frozen 0
      have hgl := h1.lt
      have hne : ¬ v.ownBlock = some g := own_blk_ne h2 h1 (by decide)
      have H1 := Lib.hid h1
      have H2 := Lib.hid h2
      clear h1 h2 hj1
      go_wp2_with fail
      have hw8 : IntKind.i64.wrap (8 * (j : Int)) = 8 * (j : Int) := IntWalk.i64_in _ (by omega)
      have h80 : (0 : Int) ≤ 8 * (j : Int) := by omega
      have h81 : 8 * (j : Int) ≤ 64 := by omega
      go_region_law (refine step_append1 _ rfl (.tmp 24) (.tmp 30) 36 rfl B 5 i0 (.int .u8 0) 1 Try.underlying36 hi hz0 hz1 hz2 rfl v m.length (m.map bv) rfl (own_keep H2.out (((Mod.refl Nil wr).drew).alloc _) (fun _ _ => id)) All _ 1 1 [bv (UInt8.ofNat (x / 256 ^ j))] rfl rfl (by rw [← beBytes_u64]; exact Rd.cells1 _ _ _) (by intro u hu; simp at hu; subst hu; rfl) (by omega) (by simp only [maxLen]; omega) (by have := HMOD.out.size; simp; omega) ?_; intro A' c' w' hown' hmod' hat'; have hb' := Blk.keep ((H1.out.drew).alloc _) hmod' hne; have hc0' := hb'.cell 0; have hf0' := hb'.frozen 0; have HB' := Lib.hid hb'; have HOWN' := Lib.hid hown'; have HMOD' := Lib.hid hmod'; have HAT' := Lib.hid hat'; clear hb' hown' hmod' hat')
      all_goals
        have hmod0 : Mod (Foot g v0) w w' := ((HMOD.out.drew).alloc _).trans' HMOD'.out (fun _ _ h => h) (fun k hk hkv => (HAT0.out k hkv).elim (fun h => .inr h) (fun h => by omega))
        have HMOD0 := Lib.hid hmod0
        clear hmod0
        go_wp2_with fail
        go_roundw
        case rel =>
          refine ⟨j, m ++ [UInt8.ofNat (x / 256 ^ j)], .slice A' (m.length + 1) c', by omega, rfl, ⟨?_, ?_, h3⟩, ?_, ?_, ?_⟩
          · simpa using HB'.out.set_ 0 (.slice A' (m.length + 1) c')
          · have ho : w'.ownsRow B 5 1 (.slice A' (m.length + 1) c') (m.length + 1) (m.map bv ++ [bv (UInt8.ofNat (x / 256 ^ j))]) := HOWN'.out
            have hk := own_keep ho ((Mod.refl (fun k => k = g) w').set (p := ⟨g, 0, none⟩) (.inl rfl) (.slice A' (m.length + 1) c')) (fun k hk hkg => by
              subst hkg
              rcases HAT'.out k hk with h | h
              · exact hne h
              · simp at h <;> omega)
            exact (by simpa using hk)
          · have := HM.out
            rw [beBytes] at this
            rw [← this]
            simp
          · exact HMOD0.out.set (p := ⟨g, 0, none⟩) (.inl (.inl rfl)) _
          · intro k hk
            rcases HAT'.out k hk with h | h
            · exact HAT0.out k h
            · have := HMOD.out.size
              simp at h
              exact .inr (by omega)
        case measure => simp [intOf] <;> omega

end Go.Proofs.Ytjmehamkpmimkaa
