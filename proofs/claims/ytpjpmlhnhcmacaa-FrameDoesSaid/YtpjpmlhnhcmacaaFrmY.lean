/- Contract of frame.Stack.PopTo. -/
import Derived.Test.YtpjpmlhnhcmacaaFrmX
namespace Go.Proofs.Ytpjpmlhnhcmacaa
open Go.RowKit

set_option maxHeartbeats 1600000 in
set_option maxRecDepth 100000 in
theorem popToFn_any (f c : Nat) (id home : Int) (w : World) (h1 : w.cell? ⟨f, 11, none⟩ = some (.int .i64 id)) (h2 : w.cell? ⟨c, 0, none⟩ = some (.int .i64 home)) :
    Calls Try.prog 24 #[.pointer (some ⟨f, 0, none⟩), .pointer (some ⟨c, 0, none⟩)] w fun r w' => r = .returned (.bool (id == home)) ∧ Mod Nil w w' := by
  go_enter Try.func24, Try.ntmps24
  go_wp2_with (go_quiet (fail))
  go_ret
  exact ⟨rfl, (Mod.refl _ _).drewN _⟩

/-- Where the first number is home. -/
def idx (ids : List Int) (home : Int) : Int := if ids.findIdx (· == home) < ids.length then (ids.findIdx (· == home) : Int) else -1

theorem idx_at {ids : List Int} {home i : Int} {n k : Nat} (hn : ids.length = n) (he : i = home) (hk : k < n) (hi : ids[k]? = some i) (hno : ∀ j i, j < k → ids[j]? = some i → i ≠ home) : idx ids home = k := by
  subst he
  have hkl : k < ids.length := by omega
  have hki : ids[k] = i := by simpa [List.getElem?_eq_getElem hkl] using hi
  have : ids.findIdx (· == i) = k := by
    rw [List.findIdx_eq hkl]
    refine ⟨by simp [hki], fun j hj => ?_⟩
    have := hno j ids[j] hj (List.getElem?_eq_getElem (by omega))
    simpa using this
  unfold idx
  rw [this, if_pos hkl]

theorem idx_no {ids : List Int} {home : Int} (hno : ∀ (j : Nat) (i : Int), ids[j]? = some i → i ≠ home) : idx ids home = -1 := by
  have : ids.findIdx (· == home) = ids.length := by
    rw [List.findIdx_eq_length]
    intro i hi
    obtain ⟨j, hj, rfl⟩ := List.mem_iff_getElem.1 hi
    simpa using hno j _ (List.getElem?_eq_getElem hj)
  unfold idx
  rw [this, if_neg (by omega)]

def fnv (c : Nat) : Value := .func (.func 24) #[] #[.pointer (some ⟨c, 0, none⟩)]

set_option maxHeartbeats 1600000 in
set_option maxRecDepth 100000 in
theorem indexFunc_any (S : Nat → Prop) (A : Option Addr) (n cap c : Nat) (fs : List Nat) (ids : List Int) (home : Int) (w : World) (hn : fs.length = n) (hi : ids.length = n) (hbig : n ≤ 200)
    (hr : Rd S w A (fs.map fun f => .pointer (some ⟨f, 0, none⟩))) (hid : ∀ (j f : Nat) (i : Int), fs[j]? = some f → ids[j]? = some i → w.cell? ⟨f, 11, none⟩ = some (.int .i64 i) ∧ f < w.heap.size)
    (hc : w.cell? ⟨c, 0, none⟩ = some (.int .i64 home)) (hcl : c < w.heap.size) :
    Calls Try.prog 23 #[.slice A n cap, fnv c] w fun r w' => r = .returned (.int .i64 (idx ids home)) ∧ Mod Nil w w' := by
  have HR := Lib.hid hr
  have HID := Lib.hid hid
  clear hr hid
  unfold fnv
  go_enter Try.func23, Try.ntmps23
  go_wp2_with fail
  go_loopw [8] (fun i wr => ∃ (k : Nat), k ≤ n ∧ i = .int .i64 k ∧ (∀ j i, j < k → ids[j]? = some i → i ≠ home) ∧ Mod Nil w wr) (fun v _ => n - (intOf v).toNat)
  case atStart => exact ⟨0, Nat.zero_le _, rfl, fun j i hj => absurd hj (by omega), Mod.refl _ _⟩
  case round =>
    obtain ⟨k, hk, rfl, hno, hm⟩ := hrel
    have HNO := Lib.hid hno
    have HM := Lib.hid hm
    clear hno hm
    by_cases hlt : k < n
    · obtain ⟨f, hf⟩ : ∃ f, fs[k]? = some f := ⟨_, List.getElem?_eq_getElem (by omega)⟩
      obtain ⟨i, hi'⟩ : ∃ i, ids[k]? = some i := ⟨_, List.getElem?_eq_getElem (by omega)⟩
      obtain ⟨hidc, hidl⟩ := HID.out k f i hf hi'
      have hcell : (fs.map fun f => Value.pointer (some ⟨f, 0, none⟩))[k]? = some (.pointer (some ⟨f, 0, none⟩)) := by rw [List.getElem?_map, hf]; rfl
      obtain ⟨ad, rfl, _, hadl, hcell'⟩ := (HR.out.keep0 HM.out).at_ hcell
      have hid1 := (HM.out.cell (p := ⟨f, 11, none⟩) hidl id).trans hidc
      have hc1 := (HM.out.cell (p := ⟨c, 0, none⟩) hcl id).trans hc
      have HIN := Lib.hid (fun (h : i = home) => (show idx ids home = k from idx_at hi h (by omega) hi' HNO.out))
      have HI' := Lib.hid hi'
      clear hf hi' hidc hidl hcell hi
      by_cases heq : i = home
      · have hE := HIN.out heq
        have hb : (i == home) = true := by simp [heq]
        have HE := Lib.hid hE
        clear hE
        go_wp2_with fail
        refine (popToFn_any f c i home _ hid1 hc1).mono ?_
        rintro r w2 ⟨rfl, hm2⟩
        have HM2 := Lib.hid hm2
        clear hm2
        go_wp2_with fail
        go_ret
        exact ⟨ret_int HE.out.symm, HM.out.trans HM2.out⟩
      · have hb : (i == home) = false := by simp [heq]
        go_wp2_with fail
        refine (popToFn_any f c i home _ hid1 hc1).mono ?_
        rintro r w2 ⟨rfl, hm2⟩
        have HM2 := Lib.hid hm2
        clear hm2
        go_wp2_with fail
        go_roundw
        case rel => exact ⟨k + 1, by omega, by go_num, fun j i' hj hi2 => (Nat.lt_succ_iff_lt_or_eq.1 hj).elim (fun h => HNO.out j i' h hi2) (fun h => by subst h; rw [HI'.out] at hi2; injection hi2 with hi2; subst hi2; exact heq), HM.out.trans HM2.out⟩
        case measure => simp [intOf] <;> omega
    · have hE : idx ids home = -1 := idx_no (fun j i hj => HNO.out j i (by have := (List.getElem?_eq_some_iff.1 hj).1; omega) hj)
      have HE := Lib.hid hE
      clear hE
      go_wp2_with fail
      go_ret
      exact ⟨ret_int HE.out.symm, HM.out⟩

/-- The frames' numbers. -/
def IdsAre (fs : List Fr) (ids : List Int) : Prop := ids.length = fs.length ∧ ∀ (j : Nat) (f : Fr) (i : Int), fs[j]? = some f → ids[j]? = some i → f.2[11]? = some (.int .i64 i)

set_option maxHeartbeats 1600000 in
set_option maxRecDepth 100000 in
theorem stkPopTo_any (B : Nat) (g : Nat) (v : Value) (last : Int) (fs : List Fr) (ids : List Int) (home : Int) (w : World) (h : StkAt B w g v last fs) (hids : IdsAre fs ids) (hbig : fs.length ≤ 200) :
    Calls Try.prog 14 #[.pointer (some ⟨g, 0, none⟩), .int .i64 home] w (CutPost B g v last fs w (if 0 ≤ idx ids home then (idx ids home).toNat else fs.length) (0 ≤ idx ids home)) := by
  have hmf : ∀ (fn : Fn) (first cap : Array Value) (w : World), (Instr.makeFunc fn first cap).run Try.prog w = .ok (.func fn first cap) w := fun _ _ _ _ => rfl
  have H := Lib.hid h
  obtain ⟨h1, h2, _, h4⟩ := h
  have hc0 := h1.cell 0
  have hf0 := h1.frozen 0
  have hgl := h1.lt
  obtain ⟨A, c, rfl, hc1, hc2⟩ := own_slice h2
  have hm1 : Mod Nil w (w.alloc (.cells #[.int .i64 home] 3)) := (Mod.refl _ _).alloc _
  have hcb : (w.alloc (.cells #[.int .i64 home] 3)).cell? ⟨w.heap.size, 0, none⟩ = some (.int .i64 home) := by simp
  have hr := (Rd.of_own h2).keep0 hm1
  have e1 : (fs.map (·.1)).map (fun f => Value.pointer (some ⟨f, 0, none⟩)) = fs.map frPtr := by rw [List.map_map]; rfl
  rw [← e1] at hr
  have hid : ∀ (j f : Nat) (i : Int), (fs.map (·.1))[j]? = some f → ids[j]? = some i → (w.alloc (.cells #[.int .i64 home] 3)).cell? ⟨f, 11, none⟩ = some (.int .i64 i) ∧ f < (w.alloc (.cells #[.int .i64 home] 3)).heap.size := by
    intro j f i hf hi
    rw [List.getElem?_map] at hf
    obtain ⟨fr, hfr, rfl⟩ := Option.map_eq_some_iff.1 hf
    have hb := (h4 fr (List.mem_of_getElem? hfr)).1
    have hb' := hb.keep hm1 id
    exact ⟨(hb'.cell 11).trans (hids.2 j fr i hfr hi), hb'.lt⟩
  have HC := Lib.hid (indexFunc_any _ A fs.length c w.heap.size (fs.map (·.1)) ids home _ (by simp) hids.1 hbig hr hid hcb (by simp))
  have hlt : idx ids home < fs.length ∧ -1 ≤ idx ids home := by unfold idx; have := hids.1; split <;> omega
  clear h1 h2 h4 hr hid hids hm1 hcb e1
  unfold fnv at HC
  have hmax : maxLen = 9223372036854775807 := rfl
  by_cases h0 : 0 ≤ idx ids home
  · rw [if_pos h0, decide_eq_true h0]
    obtain ⟨m, hm⟩ := Int.eq_ofNat_of_zero_le h0
    rw [hm, Int.toNat_natCast]
    rw [hm] at HC hlt
    have hml : m ≤ fs.length := by omega
    clear hm h0 hlt
    obtain ⟨n, hn⟩ : ∃ n, fs.length = n := ⟨_, rfl⟩
    have HN := Lib.hid hn
    have H' := H.out
    rw [hn] at HC hc0 hc1 hml H' hbig
    have H'' := Lib.hid H'
    rw [hn]
    clear hn H H'
    go_enter Try.func14, Try.ntmps14
    go_wp2_with fail
    refine HC.out.mono ?_
    rintro r w2 ⟨rfl, hm2⟩
    have hm2' : Mod Nil w w2 := ((Mod.refl Nil w).alloc _).trans hm2
    have hc0' := (hm2'.cell (p := ⟨g, 0, none⟩) hgl id).trans hc0
    have hf0' := (hm2'.frozen (p := ⟨g, 0, none⟩) hgl id).trans hf0
    have hgl2 : g < w2.heap.size := Nat.lt_of_lt_of_le hgl hm2'.size
    have HM2 := Lib.hid hm2'
    clear hm2 hm2' hc0 hf0
    go_wp2_with go_region
    go_ret
    obtain ⟨q1, q2, q3⟩ := cut_after H''.out HN.out hml HM2.out
    exact ⟨rfl, _, q1, q2, q3⟩
  · rw [if_neg h0, decide_eq_false h0]
    have hm : idx ids home = -1 := by omega
    rw [hm] at HC
    clear hm h0 hlt
    go_enter Try.func14, Try.ntmps14
    go_wp2_with fail
    refine HC.out.mono ?_
    rintro r w2 ⟨rfl, hm2⟩
    have HM2 := Lib.hid (((Mod.refl Nil w).alloc _).trans hm2)
    clear hm2
    go_wp2_with fail
    go_ret
    exact ⟨rfl, _, by rw [List.take_length]; exact H.out.keep0 HM2.out, HM2.out.any, fun _ h => h⟩
end Go.Proofs.Ytpjpmlhnhcmacaa
